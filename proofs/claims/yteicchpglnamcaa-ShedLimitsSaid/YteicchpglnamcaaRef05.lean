/-
  The document's nest, as the reference keeps it: what each of its functions does.
-/
import Derived.Test.YteicchpglnamcaaNest
import Derived.Test.YteicchpglnamcaaArgs
set_option linter.unusedVariables false
set_option linter.unusedSimpArgs false
namespace Go.Proofs.Yteicchpglnamcaa
open Go Go.Vc

theorem allOne_flatC (cs : List Ce) : allOne (flatC cs) := by
  intro v hv
  unfold flatC at hv
  obtain ⟨c, _, hc⟩ := List.mem_flatMap.1 hv
  simp only [List.mem_cons, List.not_mem_nil, or_false] at hc
  rcases hc with rfl | rfl | rfl <;> rfl
theorem allOne_bools (l : List Bool) : allOne (l.map Value.bool) := by
  intro v hv
  obtain ⟨x, _, rfl⟩ := List.mem_map.1 hv
  rfl

theorem RdS.val2 {H : Hp} {size n : Nat} {v : Value} {xs : List Value} (h : RdS H size v n xs) : ∃ a c, v = .slice a n c := by
  obtain ⟨_, ⟨rfl, a, c, rfl⟩ | ⟨b, o, c, l, rfl, _⟩⟩ := h
  · exact ⟨_, _, rfl⟩
  · exact ⟨_, _, rfl⟩

/-- A slot's cell, read. -/
theorem RdS.cell {H : Hp} {a : Option Addr} {n c : Nat} {cs : List Ce} (h : RdS H 3 (.slice a n c) n (flatC cs)) {i : Nat} {x : Ce} (hx : cs[i]? = some x) :
    ∃ b o l, a = some ⟨b, o, none⟩ ∧ H.rd b = some l ∧ i < n ∧ o + i * 3 + 3 ≤ l.length ∧ l[o + i * 3]? = some (i64 x.1) ∧ l[o + i * 3 + 1]? = some (i64 x.2.1) ∧ l[o + i * 3 + 2]? = some (u64 x.2.2) ∧
      (l.drop (o + i * 3)).take 3 = [i64 x.1, i64 x.2.1, u64 x.2.2] ∧ (l.drop (o + i * 3 + 1)).take 2 = [i64 x.2.1, u64 x.2.2] := by
  have hi := (List.getElem?_eq_some_iff.1 hx).1
  have fl := flatC_length cs
  obtain ⟨x1, x2, x3, _⟩ := cell_at hx
  obtain ⟨hl, ⟨rfl, _, _, e⟩ | ⟨b, o, c', l, e, h2, h3, h4⟩⟩ := h
  · omega
  · injection e with e1 _ _
    subst e1
    have get : ∀ k, k < n * 3 → l[o + k]? = (flatC cs)[k]? := fun k hk => by
      rw [← h4, List.getElem?_take_of_lt hk, List.getElem?_drop]
    have g1 := (get (i * 3) (by omega)).trans x1
    have g2 := (get (i * 3 + 1) (by omega)).trans x2
    have g3 := (get (i * 3 + 2) (by omega)).trans x3
    rw [← Nat.add_assoc] at g2 g3
    have gl : o + i * 3 + 3 ≤ l.length := by have := (List.getElem?_eq_some_iff.1 g3).1; omega
    refine ⟨b, o, l, rfl, h2, by omega, gl, g1, g2, g3, ?_, ?_⟩
    · apply List.ext_getElem?
      intro k
      rw [List.getElem?_take]
      match k with
      | 0 => simpa using g1
      | 1 => rw [if_pos (by omega), List.getElem?_drop]; exact g2
      | 2 => rw [if_pos (by omega), List.getElem?_drop]; exact g3
      | k + 3 => rw [if_neg (by omega)]; rfl
    · apply List.ext_getElem?
      intro k
      rw [List.getElem?_take]
      match k with
      | 0 => simpa using g2
      | 1 => rw [if_pos (by omega), List.getElem?_drop]; exact g3
      | k + 2 => rw [if_neg (by omega)]; rfl

theorem take_splice2 (l : List Value) (off : Nat) (vs : List Value) (n : Nat) (h : off + vs.length ≤ n) (hn : n ≤ l.length) : (splice l off vs).take n = splice (l.take n) off vs := by
  apply List.ext_getElem?
  intro i
  rw [List.getElem?_take, getElem?_splice vs l off i (by omega), getElem?_splice vs (l.take n) off i (by simp; omega)]
  by_cases h1 : off ≤ i ∧ i < off + vs.length
  · rw [if_pos h1, if_pos h1, if_pos (by omega)]
  · rw [if_neg h1, if_neg h1, List.getElem?_take]

/-- Some cells of a slice of the call's own, written. -/
theorem Sl.write {H : Hp} {size n c s off : Nat} {xs l vs : List Value} (h : Sl H size (.slice (some ⟨s, 0, none⟩) n c) n xs (some s)) (hl : H.own s = some l) (ho : off + vs.length ≤ n * size) :
    Sl (H.wr s (splice l off vs)) size (.slice (some ⟨s, 0, none⟩) n c) n (splice xs off vs) (some s) := by
  obtain ⟨h1, l', c', hv, h2, h3, h4, h5⟩ := h
  rw [hl] at h2
  injection h2 with h2
  subst h2
  injection hv with _ _ hc
  subst hc
  have hm := Nat.mul_le_mul_right size h3
  exact ⟨by rw [length_splice]; exact h1, _, c, rfl, own_wr_same hl, h3, by rw [length_splice]; exact h4, by rw [take_splice2 _ _ _ _ ho (by omega), h5]⟩

/-- The reference's nest, as a value whose blocks are of A. -/
def NestR (H : Hp) (v : Value) (w : Nw) (A : Nat → Prop) : Prop :=
  ∃ ha hc ca cc, v = .agg [.slice ha w.hs.length hc, .slice ca w.cs.length cc].toArray ∧ RdS H 1 (.slice ha w.hs.length hc) w.hs.length (w.hs.map .bool) ∧ RdS H 3 (.slice ca w.cs.length cc) w.cs.length (flatC w.cs) ∧ w.hs.length ≤ 65537 ∧ w.cs.length ≤ 65536 ∧
    (∀ x, ha = some x → A x.block) ∧ (∀ x, ca = some x → A x.block)

/-- What there was, and what is new. -/
def Grow (A : Nat → Prop) (H H' : Hp) (b : Nat) : Prop := A b ∨ (H.size ≤ b ∧ b < H'.size)

theorem RdS.keep {H H' : Hp} {size n c : Nat} {a : Option Addr} {xs : List Value} {S : Nat → Prop} (h : RdS H size (.slice a n c) n xs) (e : Ext S H H') (hs : ∀ x, a = some x → ¬ S x.block) : RdS H' size (.slice a n c) n xs := by
  obtain ⟨hl, h | ⟨b, o, c', l, h1, h2, h3⟩⟩ := h
  · exact ⟨hl, .inl h⟩
  · refine ⟨hl, .inr ⟨b, o, c', l, h1, e.rd h2 ?_, h3⟩⟩
    injection h1 with h1 _ _
    exact hs _ h1

theorem NestR.ext {H H' : Hp} {v : Value} {w : Nw} {A S : Nat → Prop} (h : NestR H v w A) (e : Ext S H H') (hs : ∀ b, A b → ¬ S b) : NestR H' v w A := by
  obtain ⟨ha, hc, ca, cc, rfl, h1, h2, h3, h4, a1, a2⟩ := h
  exact ⟨ha, hc, ca, cc, rfl, RdS.keep h1 e (fun x hx => hs _ (a1 x hx)), RdS.keep h2 e (fun x hx => hs _ (a2 x hx)), h3, h4, a1, a2⟩
theorem NestR.fresh {H H' : Hp} {v : Value} {w : Nw} {A : Nat → Prop} (h : NestR H v w A) (e : Fresh H H') : NestR H' v w A := h.ext e fun _ _ h => h
theorem NestR.mono {H : Hp} {v : Value} {w : Nw} {A B : Nat → Prop} (h : NestR H v w A) (hab : ∀ b, A b → B b) : NestR H v w B := by
  obtain ⟨ha, hc, ca, cc, rfl, h1, h2, h3, h4, a1, a2⟩ := h
  exact ⟨ha, hc, ca, cc, rfl, h1, h2, h3, h4, fun x hx => hab _ (a1 x hx), fun x hx => hab _ (a2 x hx)⟩

theorem ref01_Less_spec (k s k' s' : Int) (H : Hp) : CallH Try.prog n_ref01_Less [ent k s, ent k' s'] H fun v H' => Post (v = .bool (decide (lessE k s k' s')) ∧ Fresh H H') := by
  refine c_ref01_Less ⟨rfl, ?_⟩
  simp (disch := (first | omega | (simp only [size_new, size_newm, size_wr, size_wrm] <;> omega) | fail)) only [go_sem, Nat.reduceBEq, Nat.reduceAdd, Nat.reduceMul, Nat.reduceLeDiff, ↓reduceIte, rd_new_lt, own_new_lt, mp_new_lt, rd_newm_lt, own_newm_lt, mp_newm_lt, rd_wr_ne, own_wr_ne, mp_wr_ne, rd_wrm_ne, own_wrm_ne, mp_wrm_ne, rd_new_eq, own_new_eq, mp_newm_eq, s_ref01_Less, ent]
  have f : Fresh H ((H.new 70 [i64 k, u64 s]).new 70 [i64 k', u64 s']) := ((Ext.refl _ _).new _ _).new _ _
  refine Both.dec (fun h => ?_) (fun h => ?_) <;> simp (disch := (first | omega | (simp only [size_new, size_newm, size_wr, size_wrm] <;> omega) | fail)) only [go_sem, Nat.reduceBEq, Nat.reduceAdd, Nat.reduceMul, Nat.reduceLeDiff, ↓reduceIte, rd_new_lt, own_new_lt, mp_new_lt, rd_newm_lt, own_newm_lt, mp_newm_lt, rd_wr_ne, own_wr_ne, mp_wr_ne, rd_wrm_ne, own_wrm_ne, mp_wrm_ne, rd_new_eq, own_new_eq, mp_newm_eq]
  · exact ⟨congrArg Value.bool (by rw [decide_eq_decide]; unfold lessE; omega), f⟩
  · exact ⟨congrArg Value.bool (by rw [decide_eq_decide]; unfold lessE; omega), f⟩

theorem ref05_In_spec {H : Hp} {v : Value} {w : Nw} {A : Nat → Prop} (h : NestR H v w A) (i : Int) : CallH Try.prog n_ref05_In [v, i64 i] H fun r H' => Post (r = .bool (decide (InC w.cs i)) ∧ Fresh H H') := by
  obtain ⟨ha, hc, ca, cc, rfl, h1, h2, h3⟩ := h
  have f : Fresh H (H.new 108 [.slice ha w.hs.length hc, .slice ca w.cs.length cc]) := (Ext.refl _ _).new _ _
  have fl := flatC_length w.cs
  refine c_ref05_In ⟨rfl, ?_⟩
  simp (disch := (first | omega | (simp only [size_new, size_newm, size_wr, size_wrm] <;> omega) | fail)) only [go_sem, Nat.reduceBEq, Nat.reduceAdd, Nat.reduceMul, Nat.reduceLeDiff, ↓reduceIte, rd_new_lt, own_new_lt, mp_new_lt, rd_newm_lt, own_newm_lt, mp_newm_lt, rd_wr_ne, own_wr_ne, mp_wr_ne, rd_wrm_ne, own_wrm_ne, mp_wrm_ne, rd_new_eq, own_new_eq, mp_newm_eq, s_ref05_In]
  refine Both.dec (fun hi => ?_) (fun hi => ?_) <;> simp (disch := (first | omega | (simp only [size_new, size_newm, size_wr, size_wrm] <;> omega) | fail)) only [go_sem, Nat.reduceBEq, Nat.reduceAdd, Nat.reduceMul, Nat.reduceLeDiff, ↓reduceIte, rd_new_lt, own_new_lt, mp_new_lt, rd_newm_lt, own_newm_lt, mp_newm_lt, rd_wr_ne, own_wr_ne, mp_wr_ne, rd_wrm_ne, own_wrm_ne, mp_wrm_ne, rd_new_eq, own_new_eq, mp_newm_eq]
  · refine Both.dec (fun hi2 => ?_) (fun hi2 => ?_) <;> simp (disch := (first | omega | (simp only [size_new, size_newm, size_wr, size_wrm] <;> omega) | fail)) only [go_sem, Nat.reduceBEq, Nat.reduceAdd, Nat.reduceMul, Nat.reduceLeDiff, ↓reduceIte, rd_new_lt, own_new_lt, mp_new_lt, rd_newm_lt, own_newm_lt, mp_newm_lt, rd_wr_ne, own_wr_ne, mp_wr_ne, rd_wrm_ne, own_wrm_ne, mp_wrm_ne, rd_new_eq, own_new_eq, mp_newm_eq]
    · obtain ⟨x, hx⟩ : ∃ x, w.cs[i.toNat]? = some x := ⟨_, List.getElem?_eq_getElem (by omega)⟩
      obtain ⟨b, o, l, rfl, e2, e3, e4, e5, _⟩ := RdS.cell (h2.fresh f) hx
      refine ⟨by omega, ?_⟩
      simp (disch := (first | omega | (simp only [size_new, size_newm, size_wr, size_wrm] <;> omega) | fail)) only [go_sem, Nat.reduceBEq, Nat.reduceAdd, Nat.reduceMul, Nat.reduceLeDiff, ↓reduceIte, rd_new_lt, own_new_lt, mp_new_lt, rd_newm_lt, own_newm_lt, mp_newm_lt, rd_wr_ne, own_wr_ne, mp_wr_ne, rd_wrm_ne, own_wrm_ne, mp_wrm_ne, rd_new_eq, own_new_eq, mp_newm_eq, e2, e5, Nat.add_zero]
      exact ⟨congrArg Value.bool (by rw [decide_eq_decide]; exact ⟨fun hh => ⟨hi, x, hx, hh⟩, fun ⟨_, c, e1, e2⟩ => by rw [hx] at e1; injection e1 with e1; subst e1; exact e2⟩), f⟩
    · exact ⟨congrArg Value.bool (decide_eq_false (by rintro ⟨x, c, x1, x2⟩; have := (List.getElem?_eq_some_iff.1 x1).1; omega)).symm, f⟩
  · exact ⟨congrArg Value.bool (decide_eq_false (by rintro ⟨x, c, x1, x2⟩; omega)).symm, f⟩

theorem ref05_Has_spec {H : Hp} {v : Value} {w : Nw} {A : Nat → Prop} (h : NestR H v w A) (i : Int) : CallH Try.prog n_ref05_Has [v, i64 i] H fun r H' => Post (r = .bool (decide (w.has i)) ∧ Fresh H H') := by
  obtain ⟨ha, hc, ca, cc, rfl, h1, h2, h3⟩ := h
  have f : Fresh H (H.new 108 [.slice ha w.hs.length hc, .slice ca w.cs.length cc]) := (Ext.refl _ _).new _ _
  refine c_ref05_Has ⟨rfl, ?_⟩
  simp (disch := (first | omega | (simp only [size_new, size_newm, size_wr, size_wrm] <;> omega) | fail)) only [go_sem, Nat.reduceBEq, Nat.reduceAdd, Nat.reduceMul, Nat.reduceLeDiff, ↓reduceIte, rd_new_lt, own_new_lt, mp_new_lt, rd_newm_lt, own_newm_lt, mp_newm_lt, rd_wr_ne, own_wr_ne, mp_wr_ne, rd_wrm_ne, own_wrm_ne, mp_wrm_ne, rd_new_eq, own_new_eq, mp_newm_eq, s_ref05_Has]
  refine Both.dec (fun hi => ?_) (fun hi => ?_) <;> simp (disch := (first | omega | (simp only [size_new, size_newm, size_wr, size_wrm] <;> omega) | fail)) only [go_sem, Nat.reduceBEq, Nat.reduceAdd, Nat.reduceMul, Nat.reduceLeDiff, ↓reduceIte, rd_new_lt, own_new_lt, mp_new_lt, rd_newm_lt, own_newm_lt, mp_newm_lt, rd_wr_ne, own_wr_ne, mp_wr_ne, rd_wrm_ne, own_wrm_ne, mp_wrm_ne, rd_new_eq, own_new_eq, mp_newm_eq]
  · refine Both.dec (fun hi2 => ?_) (fun hi2 => ?_) <;> simp (disch := (first | omega | (simp only [size_new, size_newm, size_wr, size_wrm] <;> omega) | fail)) only [go_sem, Nat.reduceBEq, Nat.reduceAdd, Nat.reduceMul, Nat.reduceLeDiff, ↓reduceIte, rd_new_lt, own_new_lt, mp_new_lt, rd_newm_lt, own_newm_lt, mp_newm_lt, rd_wr_ne, own_wr_ne, mp_wr_ne, rd_wrm_ne, own_wrm_ne, mp_wrm_ne, rd_new_eq, own_new_eq, mp_newm_eq]
    · obtain ⟨x, hx⟩ : ∃ x, w.hs[i.toNat]? = some x := ⟨_, List.getElem?_eq_getElem (by omega)⟩
      obtain ⟨b, o, c', l, e1, e2, e3, e4⟩ := RdS.get (h1.fresh f) (i := i.toNat) (j := 0) (x := .bool x) (by omega) (by simp [hx])
      injection e1 with e1 _ _
      subst e1
      refine ⟨by omega, ?_⟩
      simp (disch := (first | omega | (simp only [size_new, size_newm, size_wr, size_wrm] <;> omega) | fail)) only [go_sem, Nat.reduceBEq, Nat.reduceAdd, Nat.reduceMul, Nat.reduceLeDiff, ↓reduceIte, rd_new_lt, own_new_lt, mp_new_lt, rd_newm_lt, own_newm_lt, mp_newm_lt, rd_wr_ne, own_wr_ne, mp_wr_ne, rd_wrm_ne, own_wrm_ne, mp_wrm_ne, rd_new_eq, own_new_eq, mp_newm_eq, e2, show l[o + i.toNat * 1]? = some (.bool x) from e4]
      refine ⟨congrArg Value.bool ?_, f⟩
      cases x with
      | true => exact (decide_eq_true (show w.has i from ⟨by omega, hx⟩)).symm
      | false => exact (decide_eq_false (fun h : w.has i => by have := h.2; rw [hx] at this; cases this)).symm
    · exact ⟨congrArg Value.bool (decide_eq_false (by rintro ⟨_, x1⟩; have := (List.getElem?_eq_some_iff.1 x1).1; omega)).symm, f⟩
  · exact ⟨congrArg Value.bool (decide_eq_false (by rintro ⟨x1, _⟩; omega)).symm, f⟩

theorem ref05_New_spec (k : Int) (H : Hp) (hk : 0 ≤ k ∧ k ≤ 65536) : CallH Try.prog n_ref05_New [i64 k] H fun r H' => Post (NestR H' r ⟨[false], List.replicate k.toNat (0, 0, 0)⟩ (Grow (fun _ => False) H H') ∧ Fresh H H') := by
  refine c_ref05_New ⟨rfl, ?_⟩
  simp (disch := (first | omega | (simp only [size_new, size_newm, size_wr, size_wrm] <;> omega) | fail)) only [go_sem, Nat.reduceBEq, Nat.reduceAdd, Nat.reduceMul, Nat.reduceLeDiff, ↓reduceIte, rd_new_lt, own_new_lt, mp_new_lt, rd_newm_lt, own_newm_lt, mp_newm_lt, rd_wr_ne, own_wr_ne, mp_wr_ne, rd_wrm_ne, own_wrm_ne, mp_wrm_ne, rd_new_eq, own_new_eq, mp_newm_eq, s_ref05_New]
  refine ⟨by omega, ?_⟩
  simp (disch := (first | omega | (simp only [size_new, size_newm, size_wr, size_wrm] <;> omega) | fail)) only [go_sem, Nat.reduceBEq, Nat.reduceAdd, Nat.reduceMul, Nat.reduceLeDiff, ↓reduceIte, rd_new_lt, own_new_lt, mp_new_lt, rd_newm_lt, own_newm_lt, mp_newm_lt, rd_wr_ne, own_wr_ne, mp_wr_ne, rd_wrm_ne, own_wrm_ne, mp_wrm_ne, rd_new_eq, own_new_eq, mp_newm_eq]
  have fl := flatC_length (List.replicate k.toNat (0, 0, 0))
  have ow : (((H.new 108 [.slice none 0 0, .slice none 0 0]).new 4 [.bool false]).new 147 (padZ [.int .i64 0, .int .i64 0, .int .u64 0] k.toNat)).own H.size = some [.slice none 0 0, .slice none 0 0] := by
    rw [own_new_lt (by simp only [size_new]; omega), own_new_lt (by simp only [size_new]; omega), own_new]
  simp (disch := (first | omega | (simp only [size_new, size_newm, size_wr, size_wrm] <;> omega) | fail)) only [go_sem, Nat.reduceBEq, Nat.reduceAdd, Nat.reduceMul, Nat.reduceLeDiff, ↓reduceIte, rd_new_lt, own_new_lt, mp_new_lt, rd_newm_lt, own_newm_lt, mp_newm_lt, rd_wr_ne, own_wr_ne, mp_wr_ne, rd_wrm_ne, own_wrm_ne, mp_wrm_ne, rd_new_eq, own_new_eq, mp_newm_eq, rd_wr_same ow]
  have f : Fresh H ((((H.new 108 [.slice none 0 0, .slice none 0 0]).new 4 [.bool false]).new 147 (padZ [.int .i64 0, .int .i64 0, .int .u64 0] k.toNat)).wr H.size
      [.slice (some ⟨H.size + 1, 0, none⟩) 1 1, .slice (some ⟨H.size + 1 + 1, 0, none⟩) k.toNat k.toNat]) := ((((Ext.refl _ _).new _ _).new _ _).new _ _).wr (fun h => absurd h (Nat.lt_irrefl _)) _
  refine ⟨⟨_, _, _, _, by simp only [List.length_replicate]; rfl, ?_, ?_, by simp, by simp; omega, fun x hx => .inr ?_, fun x hx => .inr ?_⟩, f⟩
  · refine Sl.rd (fp := some (H.size + 1)) ⟨rfl, [.bool false], 1, rfl, ?_, Nat.le_refl _, by simp, rfl⟩
    rw [own_wr_ne (by omega), own_new_lt (by simp only [size_new]; omega), own_new_eq (by simp only [size_new])]
  · rw [List.length_replicate] at fl ⊢
    refine Sl.rd (fp := some (H.size + 1 + 1)) ⟨fl, flatC (List.replicate k.toNat (0, 0, 0)), k.toNat, rfl, ?_, Nat.le_refl _, by omega, by rw [← fl]; simp⟩
    rw [own_wr_ne (by omega), own_new_eq (by simp only [size_new]), flatC_rep]
  · injection hx with hx; subst hx; simp only [size_wr, size_new]; omega
  · injection hx with hx; subst hx; simp only [size_wr, size_new]; omega

theorem ref05_with_spec {H : Hp} {v : Value} {w : Nw} {A : Nat → Prop} (h : NestR H v w A) (hA : ∀ b, A b → b < H.size) (i : Int) (c : Ce) (hi : 0 ≤ i ∧ i < w.cs.length) :
    CallH Try.prog n_ref05_with [v, i64 i, .agg #[i64 c.1, i64 c.2.1, u64 c.2.2]] H fun r H' => Post (NestR H' r (w.put i c) (Grow A H H') ∧ Fresh H H') := by
  obtain ⟨ha, hc, ca, cc, rfl, h1, h2, h3, h4, a1, a2⟩ := h
  have fl := flatC_length w.cs
  refine c_ref05_with ⟨rfl, ?_⟩
  simp (disch := (first | omega | (simp only [size_new, size_newm, size_wr, size_wrm] <;> omega) | fail)) only [go_sem, Nat.reduceBEq, Nat.reduceAdd, Nat.reduceMul, Nat.reduceLeDiff, ↓reduceIte, rd_new_lt, own_new_lt, mp_new_lt, rd_newm_lt, own_newm_lt, mp_newm_lt, rd_wr_ne, own_wr_ne, mp_wr_ne, rd_wrm_ne, own_wrm_ne, mp_wrm_ne, rd_new_eq, own_new_eq, mp_newm_eq, s_ref05_with, show Value.agg #[i64 c.1, i64 c.2.1, u64 c.2.2] = Value.agg [i64 c.1, i64 c.2.1, u64 c.2.2].toArray from rfl]
  have s0 : Sl ((((H.new 108 [.slice ha w.hs.length hc, .slice ca w.cs.length cc]).new 147 [i64 c.1, i64 c.2.1, u64 c.2.2]).new 108 [.slice none 0 0, .slice none 0 0]).new 147 []) 3 (.slice (some ⟨H.size + 1 + 1 + 1, 0, none⟩) 0 0) 0 [] (some (H.size + 1 + 1 + 1)) := Sl.lit_at (size := 3) (n := 0) (xs := []) rfl (by simp only [size_new])
  have f0 : Fresh H ((((H.new 108 [.slice ha w.hs.length hc, .slice ca w.cs.length cc]).new 147 [i64 c.1, i64 c.2.1, u64 c.2.2]).new 108 [.slice none 0 0, .slice none 0 0]).new 147 []) := (((((Ext.refl _ _).new _ _).new _ _).new _ _).new _ _)
  have o0 : ((((H.new 108 [.slice ha w.hs.length hc, .slice ca w.cs.length cc]).new 147 [i64 c.1, i64 c.2.1, u64 c.2.2]).new 108 [.slice none 0 0, .slice none 0 0]).new 147 []).own (H.size) = some [.slice ha w.hs.length hc, .slice ca w.cs.length cc] := by rw [own_new_lt (by simp only [size_new]; omega), own_new_lt (by simp only [size_new]; omega), own_new_lt (by simp only [size_new]; omega), own_new]
  have o1 : ((((H.new 108 [.slice ha w.hs.length hc, .slice ca w.cs.length cc]).new 147 [i64 c.1, i64 c.2.1, u64 c.2.2]).new 108 [.slice none 0 0, .slice none 0 0]).new 147 []).own (H.size + 1) = some [i64 c.1, i64 c.2.1, u64 c.2.2] := by rw [own_new_lt (by simp only [size_new]; omega), own_new_lt (by simp only [size_new]; omega), own_new_eq (by simp only [size_new])]
  have o2 : ((((H.new 108 [.slice ha w.hs.length hc, .slice ca w.cs.length cc]).new 147 [i64 c.1, i64 c.2.1, u64 c.2.2]).new 108 [.slice none 0 0, .slice none 0 0]).new 147 []).own (H.size + 1 + 1) = some [.slice none 0 0, .slice none 0 0] := by rw [own_new_lt (by simp only [size_new]; omega), own_new_eq (by simp only [size_new])]
  have o3 : ((((H.new 108 [.slice ha w.hs.length hc, .slice ca w.cs.length cc]).new 147 [i64 c.1, i64 c.2.1, u64 c.2.2]).new 108 [.slice none 0 0, .slice none 0 0]).new 147 []).own (H.size + 1 + 1 + 1) = some [] := by rw [own_new_eq (by simp only [size_new])]
  have hz : ((((H.new 108 [.slice ha w.hs.length hc, .slice ca w.cs.length cc]).new 147 [i64 c.1, i64 c.2.1, u64 c.2.2]).new 108 [.slice none 0 0, .slice none 0 0]).new 147 []).size = H.size + 4 := by simp only [size_new]
  generalize ((((H.new 108 [.slice ha w.hs.length hc, .slice ca w.cs.length cc]).new 147 [i64 c.1, i64 c.2.1, u64 c.2.2]).new 108 [.slice none 0 0, .slice none 0 0]).new 147 []) = H0 at *
  refine Sl.append s0 (h2.fresh f0) rfl (allOne_flatC _) (by omega) ?_
  intro v1 H1 fp1 s1 e1 hfp1
  rw [Nat.zero_add, List.nil_append] at s1
  have p0 := e1.own o0 (fun e => by injection e with e; omega)
  have p1 := e1.own o1 (fun e => by injection e with e; omega)
  have p2 := e1.own o2 (fun e => by injection e with e; omega)
  obtain ⟨b, rfl⟩ : ∃ b, fp1 = some b := by
    rcases hfp1 with h | ⟨x, h, _⟩
    · exact ⟨_, h⟩
    · exact ⟨x, h⟩
  have hb : H.size + 3 ≤ b := by
    rcases hfp1 with h | ⟨x, h, h5, _⟩
    · injection h with h; omega
    · injection h with h; omega
  have hbl := s1.lt
  have s1' := s1
  obtain ⟨_, l, c', rfl, q1, q2, q3, q4⟩ := s1'
  simp (disch := (first | omega | (simp only [size_new, size_newm, size_wr, size_wrm] <;> omega) | fail)) only [go_sem, Nat.reduceBEq, Nat.reduceAdd, Nat.reduceMul, Nat.reduceLeDiff, ↓reduceIte, rd_new_lt, own_new_lt, mp_new_lt, rd_newm_lt, own_newm_lt, mp_newm_lt, rd_wr_ne, own_wr_ne, mp_wr_ne, rd_wrm_ne, own_wrm_ne, mp_wrm_ne, rd_new_eq, own_new_eq, mp_newm_eq, rd_of_own p1]
  refine ⟨by omega, ?_⟩
  simp (disch := (first | omega | (simp only [size_new, size_newm, size_wr, size_wrm] <;> omega) | fail)) only [go_sem, Nat.reduceBEq, Nat.reduceAdd, Nat.reduceMul, Nat.reduceLeDiff, ↓reduceIte, rd_new_lt, own_new_lt, mp_new_lt, rd_newm_lt, own_newm_lt, mp_newm_lt, rd_wr_ne, own_wr_ne, mp_wr_ne, rd_wrm_ne, own_wrm_ne, mp_wrm_ne, rd_new_eq, own_new_eq, mp_newm_eq, q1]
  refine ⟨by omega, ?_⟩
  rw [show splice l (i.toNat * 3) (vcells (Value.agg #[i64 c.1, i64 c.2.1, u64 c.2.2])) = splice l (i.toNat * 3) [i64 c.1, i64 c.2.1, u64 c.2.2] from rfl]
  have s2 := Sl.write s1 (off := i.toNat * 3) (vs := [i64 c.1, i64 c.2.1, u64 c.2.2]) q1 (by simp; omega)
  have ew : Ext (fun z => z = b) H1 (H1.wr b (splice l (i.toNat * 3) [i64 c.1, i64 c.2.1, u64 c.2.2])) := (Ext.refl (fun z => z = b) _).wr (fun _ => rfl) _
  have f2 : Fresh H (H1.wr b (splice l (i.toNat * 3) [i64 c.1, i64 c.2.1, u64 c.2.2])) := (Fresh.then f0 e1 (fun z hz => by injection hz with hz; omega)).then ew (fun z hz => by omega)
  rw [flatC_set _ _ _ (by omega)] at s2
  have r0 := ew.own p0 (by omega)
  have r2 := ew.own p2 (by omega)
  have hz2 : (H1.wr b (splice l (i.toNat * 3) [i64 c.1, i64 c.2.1, u64 c.2.2])).size = H1.size := size_wr _ _ _
  generalize H1.wr b (splice l (i.toNat * 3) [i64 c.1, i64 c.2.1, u64 c.2.2]) = H2 at *
  simp (disch := (first | omega | (simp only [size_new, size_newm, size_wr, size_wrm] <;> omega) | fail)) only [go_sem, Nat.reduceBEq, Nat.reduceAdd, Nat.reduceMul, Nat.reduceLeDiff, ↓reduceIte, rd_new_lt, own_new_lt, mp_new_lt, rd_newm_lt, own_newm_lt, mp_newm_lt, rd_wr_ne, own_wr_ne, mp_wr_ne, rd_wrm_ne, own_wrm_ne, mp_wrm_ne, rd_new_eq, own_new_eq, mp_newm_eq, rd_of_own r0, r2, rd_wr_same r2]
  have e3 : Ext (fun z => z = H.size + 1 + 1) H2 (H2.wr (H.size + 1 + 1) [.slice ha w.hs.length hc, .slice (some ⟨b, 0, none⟩) w.cs.length c']) := (Ext.refl (fun z => z = H.size + 1 + 1) _).wr (fun _ => rfl) _
  have f3 := Fresh.then f2 e3 (fun z hz => by omega)
  refine ⟨⟨ha, hc, some ⟨b, 0, none⟩, c', by simp [Nw.put, tup], h1.fresh f3, ?_, h3, by simpa [Nw.put] using h4, fun x hx => .inl (a1 x hx), fun x hx => .inr ?_⟩, f3⟩
  · have := (s2.ext e3 (fun x hx => by injection hx with hx; omega)).rd
    simpa [Nw.put] using this
  · injection hx with hx
    subst hx
    rw [size_wr]
    exact ⟨by simp only; omega, by simp only; omega⟩

theorem ref05_Drop_spec {H : Hp} {v : Value} {w : Nw} {A : Nat → Prop} (h : NestR H v w A) (hA : ∀ b, A b → b < H.size) (i : Int) :
    CallH Try.prog n_ref05_Drop [v, i64 i] H fun r H' => Post (Fresh H H' ∧ ((¬ InC w.cs i ∧ ∃ v', r = .tuple [v', .bool false].toArray ∧ NestR H' v' w (Grow A H H')) ∨ (InC w.cs i ∧ ∃ v', r = .tuple [v', .bool true].toArray ∧ NestR H' v' (w.put i (0, 0, 0)) (Grow A H H')))) := by
  have h' := h
  obtain ⟨ha, hc, ca, cc, rfl, h1, h2, h3, h4, a1, a2⟩ := h
  refine c_ref05_Drop ⟨rfl, ?_⟩
  simp (disch := (first | omega | (simp only [size_new, size_newm, size_wr, size_wrm] <;> omega) | fail)) only [go_sem, Nat.reduceBEq, Nat.reduceAdd, Nat.reduceMul, Nat.reduceLeDiff, ↓reduceIte, rd_new_lt, own_new_lt, mp_new_lt, rd_newm_lt, own_newm_lt, mp_newm_lt, rd_wr_ne, own_wr_ne, mp_wr_ne, rd_wrm_ne, own_wrm_ne, mp_wrm_ne, rd_new_eq, own_new_eq, mp_newm_eq, s_ref05_Drop]
  have f0 : Fresh H ((H.new 108 [.slice ha w.hs.length hc, .slice ca w.cs.length cc]).new 108 [.slice none 0 0, .slice none 0 0]) := (((Ext.refl _ _).new _ _).new _ _)
  have o0 : ((H.new 108 [.slice ha w.hs.length hc, .slice ca w.cs.length cc]).new 108 [.slice none 0 0, .slice none 0 0]).own (H.size) = some [.slice ha w.hs.length hc, .slice ca w.cs.length cc] := by rw [own_new_lt (by simp only [size_new]; omega), own_new]
  have o1 : ((H.new 108 [.slice ha w.hs.length hc, .slice ca w.cs.length cc]).new 108 [.slice none 0 0, .slice none 0 0]).own (H.size + 1) = some [.slice none 0 0, .slice none 0 0] := by rw [own_new_eq (by simp only [size_new])]
  have hz : ((H.new 108 [.slice ha w.hs.length hc, .slice ca w.cs.length cc]).new 108 [.slice none 0 0, .slice none 0 0]).size = H.size + 2 := by simp only [size_new]
  generalize ((H.new 108 [.slice ha w.hs.length hc, .slice ca w.cs.length cc]).new 108 [.slice none 0 0, .slice none 0 0]) = H0 at *
  refine (ref05_In_spec (h'.fresh f0) i).mono ?_
  rintro _ H1 ⟨rfl, f1⟩
  have p0 := f1.own o0 (fun h => h)
  have p1 := f1.own o1 (fun h => h)
  have z1 := f1.size
  simp (disch := (first | omega | (simp only [size_new, size_newm, size_wr, size_wrm] <;> omega) | fail)) only [go_sem, Nat.reduceBEq, Nat.reduceAdd, Nat.reduceMul, Nat.reduceLeDiff, ↓reduceIte, rd_new_lt, own_new_lt, mp_new_lt, rd_newm_lt, own_newm_lt, mp_newm_lt, rd_wr_ne, own_wr_ne, mp_wr_ne, rd_wrm_ne, own_wrm_ne, mp_wrm_ne, rd_new_eq, own_new_eq, mp_newm_eq]
  refine Both.dec (fun hi => ?_) (fun hi => ?_) <;> simp (disch := (first | omega | (simp only [size_new, size_newm, size_wr, size_wrm] <;> omega) | fail)) only [go_sem, Nat.reduceBEq, Nat.reduceAdd, Nat.reduceMul, Nat.reduceLeDiff, ↓reduceIte, rd_new_lt, own_new_lt, mp_new_lt, rd_newm_lt, own_newm_lt, mp_newm_lt, rd_wr_ne, own_wr_ne, mp_wr_ne, rd_wrm_ne, own_wrm_ne, mp_wrm_ne, rd_new_eq, own_new_eq, mp_newm_eq, rd_of_own p0]
  · obtain ⟨hi0, x, hx, _⟩ := id hi
    have hil := (List.getElem?_eq_some_iff.1 hx).1
    refine (ref05_with_spec ((h'.fresh f0).fresh f1) (fun b hb => by have := hA b hb; omega) i (0, 0, 0) ⟨hi0, by omega⟩).mono ?_
    rintro rv H2 ⟨hr, f2⟩
    have q1 := f2.own p1 (fun h => h)
    have hr' := hr
    obtain ⟨ha', hc', ca', cc', rfl, _⟩ := hr'
    simp (disch := (first | omega | (simp only [size_new, size_newm, size_wr, size_wrm] <;> omega) | fail)) only [go_sem, Nat.reduceBEq, Nat.reduceAdd, Nat.reduceMul, Nat.reduceLeDiff, ↓reduceIte, rd_new_lt, own_new_lt, mp_new_lt, rd_newm_lt, own_newm_lt, mp_newm_lt, rd_wr_ne, own_wr_ne, mp_wr_ne, rd_wrm_ne, own_wrm_ne, mp_wrm_ne, rd_new_eq, own_new_eq, mp_newm_eq, q1, rd_wr_same q1]
    have e3 : Ext (fun z => z = H.size + 1) H2 (H2.wr (H.size + 1) [.slice ha' (w.put i (0, 0, 0)).hs.length hc', .slice ca' (w.put i (0, 0, 0)).cs.length cc']) := (Ext.refl (fun z => z = H.size + 1) _).wr (fun _ => rfl) _
    have f3 := Fresh.then ((f0.trans f1).trans f2) e3 (fun z hz => by omega)
    refine ⟨f3, .inr ⟨hi, _, rfl, (hr.ext e3 (fun b hb => ?_)).mono fun b hb => ?_⟩⟩
    · rcases hb with hb | hb
      · have := hA b hb; omega
      · omega
    · rcases hb with hb | hb
      · exact .inl hb
      · exact .inr (by rw [size_wr]; omega)
  · simp (disch := (first | omega | (simp only [size_new, size_newm, size_wr, size_wrm] <;> omega) | fail)) only [go_sem, Nat.reduceBEq, Nat.reduceAdd, Nat.reduceMul, Nat.reduceLeDiff, ↓reduceIte, rd_new_lt, own_new_lt, mp_new_lt, rd_newm_lt, own_newm_lt, mp_newm_lt, rd_wr_ne, own_wr_ne, mp_wr_ne, rd_wrm_ne, own_wrm_ne, mp_wrm_ne, rd_new_eq, own_new_eq, mp_newm_eq, p1, rd_wr_same p1]
    have e3 : Ext (fun z => z = H.size + 1) H1 (H1.wr (H.size + 1) [.slice ha w.hs.length hc, .slice ca w.cs.length cc]) := (Ext.refl (fun z => z = H.size + 1) _).wr (fun _ => rfl) _
    have f3 := Fresh.then (f0.trans f1) e3 (fun z hz => by omega)
    exact ⟨f3, .inl ⟨hi, _, rfl, (h'.fresh f3).mono fun b hb => .inl hb⟩⟩

theorem ref05_Put_spec {H : Hp} {v : Value} {w : Nw} {A : Nat → Prop} (h : NestR H v w A) (hA : ∀ b, A b → b < H.size) (g i k s : Int) :
    CallH Try.prog n_ref05_Put [v, i64 g, i64 i, ent k s] H fun r H' => Post (Fresh H H' ∧ ((¬ (w.has g ∧ (0 ≤ i ∧ i < w.cs.length) ∧ ¬ InC w.cs i) ∧ ∃ v', r = .tuple [v', .bool false].toArray ∧ NestR H' v' w (Grow A H H')) ∨
      ((w.has g ∧ (0 ≤ i ∧ i < w.cs.length) ∧ ¬ InC w.cs i) ∧ ∃ v', r = .tuple [v', .bool true].toArray ∧ NestR H' v' (w.put i (g, k, s)) (Grow A H H')))) := by
  have h' := h
  obtain ⟨ha, hc, ca, cc, rfl, h1, h2, h3, h4, a1, a2⟩ := h
  refine c_ref05_Put ⟨rfl, ?_⟩
  simp (disch := (first | omega | (simp only [size_new, size_newm, size_wr, size_wrm] <;> omega) | fail)) only [go_sem, Nat.reduceBEq, Nat.reduceAdd, Nat.reduceMul, Nat.reduceLeDiff, ↓reduceIte, rd_new_lt, own_new_lt, mp_new_lt, rd_newm_lt, own_newm_lt, mp_newm_lt, rd_wr_ne, own_wr_ne, mp_wr_ne, rd_wrm_ne, own_wrm_ne, mp_wrm_ne, rd_new_eq, own_new_eq, mp_newm_eq, s_ref05_Put, ent]
  have f0 : Fresh H (((H.new 108 [.slice ha w.hs.length hc, .slice ca w.cs.length cc]).new 70 [i64 k, u64 s]).new 108 [.slice none 0 0, .slice none 0 0]) := ((((Ext.refl _ _).new _ _).new _ _).new _ _)
  have o0 : (((H.new 108 [.slice ha w.hs.length hc, .slice ca w.cs.length cc]).new 70 [i64 k, u64 s]).new 108 [.slice none 0 0, .slice none 0 0]).own (H.size) = some [.slice ha w.hs.length hc, .slice ca w.cs.length cc] := by rw [own_new_lt (by simp only [size_new]; omega), own_new_lt (by simp only [size_new]; omega), own_new]
  have o1 : (((H.new 108 [.slice ha w.hs.length hc, .slice ca w.cs.length cc]).new 70 [i64 k, u64 s]).new 108 [.slice none 0 0, .slice none 0 0]).own (H.size + 1) = some [i64 k, u64 s] := by rw [own_new_lt (by simp only [size_new]; omega), own_new_eq (by simp only [size_new])]
  have o2 : (((H.new 108 [.slice ha w.hs.length hc, .slice ca w.cs.length cc]).new 70 [i64 k, u64 s]).new 108 [.slice none 0 0, .slice none 0 0]).own (H.size + 1 + 1) = some [.slice none 0 0, .slice none 0 0] := by rw [own_new_eq (by simp only [size_new])]
  have hz : (((H.new 108 [.slice ha w.hs.length hc, .slice ca w.cs.length cc]).new 70 [i64 k, u64 s]).new 108 [.slice none 0 0, .slice none 0 0]).size = H.size + 3 := by simp only [size_new]
  generalize (((H.new 108 [.slice ha w.hs.length hc, .slice ca w.cs.length cc]).new 70 [i64 k, u64 s]).new 108 [.slice none 0 0, .slice none 0 0]) = H0 at *
  have fail : ∀ H1, Fresh H0 H1 → ¬ (w.has g ∧ (0 ≤ i ∧ i < w.cs.length) ∧ ¬ InC w.cs i) → Post (Fresh H (H1.wr (H.size + 1 + 1) [.slice ha w.hs.length hc, .slice ca w.cs.length cc]) ∧ ((¬ (w.has g ∧ (0 ≤ i ∧ i < w.cs.length) ∧ ¬ InC w.cs i) ∧ ∃ v', Value.tuple [.agg [.slice ha w.hs.length hc, .slice ca w.cs.length cc].toArray, .bool false].toArray = .tuple [v', .bool false].toArray ∧ NestR (H1.wr (H.size + 1 + 1) [.slice ha w.hs.length hc, .slice ca w.cs.length cc]) v' w (Grow A H (H1.wr (H.size + 1 + 1) [.slice ha w.hs.length hc, .slice ca w.cs.length cc]))) ∨
      ((w.has g ∧ (0 ≤ i ∧ i < w.cs.length) ∧ ¬ InC w.cs i) ∧ ∃ v', Value.tuple [.agg [.slice ha w.hs.length hc, .slice ca w.cs.length cc].toArray, .bool false].toArray = .tuple [v', .bool true].toArray ∧ NestR (H1.wr (H.size + 1 + 1) [.slice ha w.hs.length hc, .slice ca w.cs.length cc]) v' (w.put i (g, k, s)) (Grow A H (H1.wr (H.size + 1 + 1) [.slice ha w.hs.length hc, .slice ca w.cs.length cc]))))) := by
    intro H1 f1 hn
    have e3 : Ext (fun z => z = H.size + 1 + 1) H1 (H1.wr (H.size + 1 + 1) [.slice ha w.hs.length hc, .slice ca w.cs.length cc]) := (Ext.refl (fun z => z = H.size + 1 + 1) _).wr (fun _ => rfl) _
    have f3 := Fresh.then (f0.trans f1) e3 (fun z hz => by omega)
    exact ⟨f3, .inl ⟨hn, _, rfl, (h'.fresh f3).mono fun b hb => .inl hb⟩⟩
  refine (ref05_Has_spec (h'.fresh f0) g).mono ?_
  rintro _ H1 ⟨rfl, f1⟩
  have p0 := f1.own o0 (fun h => h)
  have p1 := f1.own o1 (fun h => h)
  have p2 := f1.own o2 (fun h => h)
  have z1 := f1.size
  simp (disch := (first | omega | (simp only [size_new, size_newm, size_wr, size_wrm] <;> omega) | fail)) only [go_sem, Nat.reduceBEq, Nat.reduceAdd, Nat.reduceMul, Nat.reduceLeDiff, ↓reduceIte, rd_new_lt, own_new_lt, mp_new_lt, rd_newm_lt, own_newm_lt, mp_newm_lt, rd_wr_ne, own_wr_ne, mp_wr_ne, rd_wrm_ne, own_wrm_ne, mp_wrm_ne, rd_new_eq, own_new_eq, mp_newm_eq]
  refine Both.dec (fun hg => ?_) (fun hg => ?_) <;> simp (disch := (first | omega | (simp only [size_new, size_newm, size_wr, size_wrm] <;> omega) | fail)) only [go_sem, Nat.reduceBEq, Nat.reduceAdd, Nat.reduceMul, Nat.reduceLeDiff, ↓reduceIte, rd_new_lt, own_new_lt, mp_new_lt, rd_newm_lt, own_newm_lt, mp_newm_lt, rd_wr_ne, own_wr_ne, mp_wr_ne, rd_wrm_ne, own_wrm_ne, mp_wrm_ne, rd_new_eq, own_new_eq, mp_newm_eq]
  · refine Both.dec (fun hi0 => ?_) (fun hi0 => ?_) <;> simp (disch := (first | omega | (simp only [size_new, size_newm, size_wr, size_wrm] <;> omega) | fail)) only [go_sem, Nat.reduceBEq, Nat.reduceAdd, Nat.reduceMul, Nat.reduceLeDiff, ↓reduceIte, rd_new_lt, own_new_lt, mp_new_lt, rd_newm_lt, own_newm_lt, mp_newm_lt, rd_wr_ne, own_wr_ne, mp_wr_ne, rd_wrm_ne, own_wrm_ne, mp_wrm_ne, rd_new_eq, own_new_eq, mp_newm_eq, rd_of_own p0]
    · simp (disch := (first | omega | (simp only [size_new, size_newm, size_wr, size_wrm] <;> omega) | fail)) only [go_sem, Nat.reduceBEq, Nat.reduceAdd, Nat.reduceMul, Nat.reduceLeDiff, ↓reduceIte, rd_new_lt, own_new_lt, mp_new_lt, rd_newm_lt, own_newm_lt, mp_newm_lt, rd_wr_ne, own_wr_ne, mp_wr_ne, rd_wrm_ne, own_wrm_ne, mp_wrm_ne, rd_new_eq, own_new_eq, mp_newm_eq, rd_of_own p0, p2, rd_wr_same p2]
      exact fail H1 f1 (fun hc => by omega)
    · refine Both.dec (fun hi1 => ?_) (fun hi1 => ?_) <;> simp (disch := (first | omega | (simp only [size_new, size_newm, size_wr, size_wrm] <;> omega) | fail)) only [go_sem, Nat.reduceBEq, Nat.reduceAdd, Nat.reduceMul, Nat.reduceLeDiff, ↓reduceIte, rd_new_lt, own_new_lt, mp_new_lt, rd_newm_lt, own_newm_lt, mp_newm_lt, rd_wr_ne, own_wr_ne, mp_wr_ne, rd_wrm_ne, own_wrm_ne, mp_wrm_ne, rd_new_eq, own_new_eq, mp_newm_eq, rd_of_own p0]
      · simp (disch := (first | omega | (simp only [size_new, size_newm, size_wr, size_wrm] <;> omega) | fail)) only [go_sem, Nat.reduceBEq, Nat.reduceAdd, Nat.reduceMul, Nat.reduceLeDiff, ↓reduceIte, rd_new_lt, own_new_lt, mp_new_lt, rd_newm_lt, own_newm_lt, mp_newm_lt, rd_wr_ne, own_wr_ne, mp_wr_ne, rd_wrm_ne, own_wrm_ne, mp_wrm_ne, rd_new_eq, own_new_eq, mp_newm_eq, rd_of_own p0, p2, rd_wr_same p2]
        exact fail H1 f1 (fun hc => by omega)
      · refine (ref05_In_spec ((h'.fresh f0).fresh f1) i).mono ?_
        rintro _ H2 ⟨rfl, f2⟩
        have q0 := f2.own p0 (fun h => h)
        have q1 := f2.own p1 (fun h => h)
        have q2 := f2.own p2 (fun h => h)
        have z2 := f2.size
        simp (disch := (first | omega | (simp only [size_new, size_newm, size_wr, size_wrm] <;> omega) | fail)) only [go_sem, Nat.reduceBEq, Nat.reduceAdd, Nat.reduceMul, Nat.reduceLeDiff, ↓reduceIte, rd_new_lt, own_new_lt, mp_new_lt, rd_newm_lt, own_newm_lt, mp_newm_lt, rd_wr_ne, own_wr_ne, mp_wr_ne, rd_wrm_ne, own_wrm_ne, mp_wrm_ne, rd_new_eq, own_new_eq, mp_newm_eq]
        refine Both.dec (fun hin => ?_) (fun hin => ?_) <;> simp (disch := (first | omega | (simp only [size_new, size_newm, size_wr, size_wrm] <;> omega) | fail)) only [go_sem, Nat.reduceBEq, Nat.reduceAdd, Nat.reduceMul, Nat.reduceLeDiff, ↓reduceIte, rd_new_lt, own_new_lt, mp_new_lt, rd_newm_lt, own_newm_lt, mp_newm_lt, rd_wr_ne, own_wr_ne, mp_wr_ne, rd_wrm_ne, own_wrm_ne, mp_wrm_ne, rd_new_eq, own_new_eq, mp_newm_eq, rd_of_own q0]
        · simp (disch := (first | omega | (simp only [size_new, size_newm, size_wr, size_wrm] <;> omega) | fail)) only [go_sem, Nat.reduceBEq, Nat.reduceAdd, Nat.reduceMul, Nat.reduceLeDiff, ↓reduceIte, rd_new_lt, own_new_lt, mp_new_lt, rd_newm_lt, own_newm_lt, mp_newm_lt, rd_wr_ne, own_wr_ne, mp_wr_ne, rd_wrm_ne, own_wrm_ne, mp_wrm_ne, rd_new_eq, own_new_eq, mp_newm_eq, rd_of_own q0, q2, rd_wr_same q2]
          exact fail H2 (f1.trans f2) (fun hc => hc.2.2 hin)
        · simp (disch := (first | omega | (simp only [size_new, size_newm, size_wr, size_wrm] <;> omega) | fail)) only [go_sem, Nat.reduceBEq, Nat.reduceAdd, Nat.reduceMul, Nat.reduceLeDiff, ↓reduceIte, rd_new_lt, own_new_lt, mp_new_lt, rd_newm_lt, own_newm_lt, mp_newm_lt, rd_wr_ne, own_wr_ne, mp_wr_ne, rd_wrm_ne, own_wrm_ne, mp_wrm_ne, rd_new_eq, own_new_eq, mp_newm_eq, rd_of_own q0, rd_of_own q1]
          refine (ref05_with_spec (((h'.fresh f0).fresh f1).fresh f2) (fun b hb => by have := hA b hb; omega) i (g, k, s) ⟨by omega, by omega⟩).mono ?_
          rintro rv H3 ⟨hr, f3⟩
          have r2 := f3.own q2 (fun h => h)
          have hr' := hr
          obtain ⟨ha', hc', ca', cc', rfl, _⟩ := hr'
          simp (disch := (first | omega | (simp only [size_new, size_newm, size_wr, size_wrm] <;> omega) | fail)) only [go_sem, Nat.reduceBEq, Nat.reduceAdd, Nat.reduceMul, Nat.reduceLeDiff, ↓reduceIte, rd_new_lt, own_new_lt, mp_new_lt, rd_newm_lt, own_newm_lt, mp_newm_lt, rd_wr_ne, own_wr_ne, mp_wr_ne, rd_wrm_ne, own_wrm_ne, mp_wrm_ne, rd_new_eq, own_new_eq, mp_newm_eq, r2, rd_wr_same r2]
          have e3 : Ext (fun z => z = H.size + 1 + 1) H3 (H3.wr (H.size + 1 + 1) [.slice ha' (w.put i (g, k, s)).hs.length hc', .slice ca' (w.put i (g, k, s)).cs.length cc']) := (Ext.refl (fun z => z = H.size + 1 + 1) _).wr (fun _ => rfl) _
          have f4 := Fresh.then (((f0.trans f1).trans f2).trans f3) e3 (fun z hz => by omega)
          refine ⟨f4, .inr ⟨⟨hg, ⟨by omega, by omega⟩, hin⟩, _, rfl, (hr.ext e3 (fun b hb => ?_)).mono fun b hb => ?_⟩⟩
          · rcases hb with hb | hb
            · have := hA b hb; omega
            · omega
          · rcases hb with hb | hb
            · exact .inl hb
            · exact .inr (by rw [size_wr]; omega)
  · simp (disch := (first | omega | (simp only [size_new, size_newm, size_wr, size_wrm] <;> omega) | fail)) only [go_sem, Nat.reduceBEq, Nat.reduceAdd, Nat.reduceMul, Nat.reduceLeDiff, ↓reduceIte, rd_new_lt, own_new_lt, mp_new_lt, rd_newm_lt, own_newm_lt, mp_newm_lt, rd_wr_ne, own_wr_ne, mp_wr_ne, rd_wrm_ne, own_wrm_ne, mp_wrm_ne, rd_new_eq, own_new_eq, mp_newm_eq, rd_of_own p0, p2, rd_wr_same p2]
    exact fail H1 f1 (fun hc => hg hc.1)

theorem ref05_Lower_spec {H : Hp} {v : Value} {w : Nw} {A : Nat → Prop} (h : NestR H v w A) (hA : ∀ b, A b → b < H.size) (i k s : Int) :
    CallH Try.prog n_ref05_Lower [v, i64 i, ent k s] H fun r H' => Post (Fresh H H' ∧ ((¬ (InC w.cs i ∧ ∀ x, w.cs[i.toNat]? = some x → ¬ lessE x.2.1 x.2.2 k s) ∧ ∃ v', r = .tuple [v', .bool false].toArray ∧ NestR H' v' w (Grow A H H')) ∨
      (InC w.cs i ∧ ∃ x, w.cs[i.toNat]? = some x ∧ ¬ lessE x.2.1 x.2.2 k s ∧ ∃ v', r = .tuple [v', .bool true].toArray ∧ NestR H' v' (w.put i (x.1, k, s)) (Grow A H H')))) := by
  have h' := h
  obtain ⟨ha, hc, ca, cc, rfl, h1, h2, h3, h4, a1, a2⟩ := h
  refine c_ref05_Lower ⟨rfl, ?_⟩
  simp (disch := (first | omega | (simp only [size_new, size_newm, size_wr, size_wrm] <;> omega) | fail)) only [go_sem, Nat.reduceBEq, Nat.reduceAdd, Nat.reduceMul, Nat.reduceLeDiff, ↓reduceIte, rd_new_lt, own_new_lt, mp_new_lt, rd_newm_lt, own_newm_lt, mp_newm_lt, rd_wr_ne, own_wr_ne, mp_wr_ne, rd_wrm_ne, own_wrm_ne, mp_wrm_ne, rd_new_eq, own_new_eq, mp_newm_eq, s_ref05_Lower, ent]
  have f0 : Fresh H (((H.new 108 [.slice ha w.hs.length hc, .slice ca w.cs.length cc]).new 70 [i64 k, u64 s]).new 108 [.slice none 0 0, .slice none 0 0]) := ((((Ext.refl _ _).new _ _).new _ _).new _ _)
  have o0 : (((H.new 108 [.slice ha w.hs.length hc, .slice ca w.cs.length cc]).new 70 [i64 k, u64 s]).new 108 [.slice none 0 0, .slice none 0 0]).own (H.size) = some [.slice ha w.hs.length hc, .slice ca w.cs.length cc] := by rw [own_new_lt (by simp only [size_new]; omega), own_new_lt (by simp only [size_new]; omega), own_new]
  have o1 : (((H.new 108 [.slice ha w.hs.length hc, .slice ca w.cs.length cc]).new 70 [i64 k, u64 s]).new 108 [.slice none 0 0, .slice none 0 0]).own (H.size + 1) = some [i64 k, u64 s] := by rw [own_new_lt (by simp only [size_new]; omega), own_new_eq (by simp only [size_new])]
  have o2 : (((H.new 108 [.slice ha w.hs.length hc, .slice ca w.cs.length cc]).new 70 [i64 k, u64 s]).new 108 [.slice none 0 0, .slice none 0 0]).own (H.size + 1 + 1) = some [.slice none 0 0, .slice none 0 0] := by rw [own_new_eq (by simp only [size_new])]
  have hz : (((H.new 108 [.slice ha w.hs.length hc, .slice ca w.cs.length cc]).new 70 [i64 k, u64 s]).new 108 [.slice none 0 0, .slice none 0 0]).size = H.size + 3 := by simp only [size_new]
  generalize (((H.new 108 [.slice ha w.hs.length hc, .slice ca w.cs.length cc]).new 70 [i64 k, u64 s]).new 108 [.slice none 0 0, .slice none 0 0]) = H0 at *
  refine (ref05_In_spec (h'.fresh f0) i).mono ?_
  rintro _ H1 ⟨rfl, f1⟩
  have p0 := f1.own o0 (fun h => h)
  have p1 := f1.own o1 (fun h => h)
  have p2 := f1.own o2 (fun h => h)
  have z1 := f1.size
  simp (disch := (first | omega | (simp only [size_new, size_newm, size_wr, size_wrm] <;> omega) | fail)) only [go_sem, Nat.reduceBEq, Nat.reduceAdd, Nat.reduceMul, Nat.reduceLeDiff, ↓reduceIte, rd_new_lt, own_new_lt, mp_new_lt, rd_newm_lt, own_newm_lt, mp_newm_lt, rd_wr_ne, own_wr_ne, mp_wr_ne, rd_wrm_ne, own_wrm_ne, mp_wrm_ne, rd_new_eq, own_new_eq, mp_newm_eq]
  refine Both.dec (fun hi => ?_) (fun hi => ?_) <;> simp (disch := (first | omega | (simp only [size_new, size_newm, size_wr, size_wrm] <;> omega) | fail)) only [go_sem, Nat.reduceBEq, Nat.reduceAdd, Nat.reduceMul, Nat.reduceLeDiff, ↓reduceIte, rd_new_lt, own_new_lt, mp_new_lt, rd_newm_lt, own_newm_lt, mp_newm_lt, rd_wr_ne, own_wr_ne, mp_wr_ne, rd_wrm_ne, own_wrm_ne, mp_wrm_ne, rd_new_eq, own_new_eq, mp_newm_eq, rd_of_own p0]
  · obtain ⟨hi0, x, hx, _⟩ := id hi
    have hil := (List.getElem?_eq_some_iff.1 hx).1
    obtain ⟨b, o, l, rfl, c1, c2, c3, c4, c5, c6, c7, c8⟩ := RdS.cell (h2.fresh (f0.trans f1)) hx
    refine ⟨by omega, ?_⟩
    simp (disch := (first | omega | (simp only [size_new, size_newm, size_wr, size_wrm] <;> omega) | fail)) only [go_sem, Nat.reduceBEq, Nat.reduceAdd, Nat.reduceMul, Nat.reduceLeDiff, ↓reduceIte, rd_new_lt, own_new_lt, mp_new_lt, rd_newm_lt, own_newm_lt, mp_newm_lt, rd_wr_ne, own_wr_ne, mp_wr_ne, rd_wrm_ne, own_wrm_ne, mp_wrm_ne, rd_new_eq, own_new_eq, mp_newm_eq, c1, c8, rd_of_own p1]
    refine ⟨by omega, ?_⟩
    simp (disch := (first | omega | (simp only [size_new, size_newm, size_wr, size_wrm] <;> omega) | fail)) only [go_sem, Nat.reduceBEq, Nat.reduceAdd, Nat.reduceMul, Nat.reduceLeDiff, ↓reduceIte, rd_new_lt, own_new_lt, mp_new_lt, rd_newm_lt, own_newm_lt, mp_newm_lt, rd_wr_ne, own_wr_ne, mp_wr_ne, rd_wrm_ne, own_wrm_ne, mp_wrm_ne, rd_new_eq, own_new_eq, mp_newm_eq, c8, rd_of_own p1]
    refine (ref01_Less_spec x.2.1 x.2.2 k s H1).mono ?_
    rintro _ H2 ⟨rfl, f2⟩
    have q0 := f2.own p0 (fun h => h)
    have q1 := f2.own p1 (fun h => h)
    have q2 := f2.own p2 (fun h => h)
    have z2 := f2.size
    have d1 := f2.rd c1 (fun h => h)
    simp (disch := (first | omega | (simp only [size_new, size_newm, size_wr, size_wrm] <;> omega) | fail)) only [go_sem, Nat.reduceBEq, Nat.reduceAdd, Nat.reduceMul, Nat.reduceLeDiff, ↓reduceIte, rd_new_lt, own_new_lt, mp_new_lt, rd_newm_lt, own_newm_lt, mp_newm_lt, rd_wr_ne, own_wr_ne, mp_wr_ne, rd_wrm_ne, own_wrm_ne, mp_wrm_ne, rd_new_eq, own_new_eq, mp_newm_eq]
    refine Both.dec (fun hl => ?_) (fun hl => ?_) <;> simp (disch := (first | omega | (simp only [size_new, size_newm, size_wr, size_wrm] <;> omega) | fail)) only [go_sem, Nat.reduceBEq, Nat.reduceAdd, Nat.reduceMul, Nat.reduceLeDiff, ↓reduceIte, rd_new_lt, own_new_lt, mp_new_lt, rd_newm_lt, own_newm_lt, mp_newm_lt, rd_wr_ne, own_wr_ne, mp_wr_ne, rd_wrm_ne, own_wrm_ne, mp_wrm_ne, rd_new_eq, own_new_eq, mp_newm_eq, rd_of_own q0]
    · simp (disch := (first | omega | (simp only [size_new, size_newm, size_wr, size_wrm] <;> omega) | fail)) only [go_sem, Nat.reduceBEq, Nat.reduceAdd, Nat.reduceMul, Nat.reduceLeDiff, ↓reduceIte, rd_new_lt, own_new_lt, mp_new_lt, rd_newm_lt, own_newm_lt, mp_newm_lt, rd_wr_ne, own_wr_ne, mp_wr_ne, rd_wrm_ne, own_wrm_ne, mp_wrm_ne, rd_new_eq, own_new_eq, mp_newm_eq, q2, rd_wr_same q2]
      have e3 : Ext (fun z => z = H.size + 1 + 1) H2 (H2.wr (H.size + 1 + 1) [.slice ha w.hs.length hc, .slice (some ⟨b, o, none⟩) w.cs.length cc]) := (Ext.refl (fun z => z = H.size + 1 + 1) _).wr (fun _ => rfl) _
      have f3 := Fresh.then ((f0.trans f1).trans f2) e3 (fun z hz => by omega)
      exact ⟨f3, .inl ⟨fun hc => hc.2 x hx hl, _, rfl, (h'.fresh f3).mono fun b hb => .inl hb⟩⟩
    · refine ⟨by omega, ?_⟩
      simp (disch := (first | omega | (simp only [size_new, size_newm, size_wr, size_wrm] <;> omega) | fail)) only [go_sem, Nat.reduceBEq, Nat.reduceAdd, Nat.reduceMul, Nat.reduceLeDiff, ↓reduceIte, rd_new_lt, own_new_lt, mp_new_lt, rd_newm_lt, own_newm_lt, mp_newm_lt, rd_wr_ne, own_wr_ne, mp_wr_ne, rd_wrm_ne, own_wrm_ne, mp_wrm_ne, rd_new_eq, own_new_eq, mp_newm_eq, d1, c4, Nat.add_zero, rd_of_own q0, rd_of_own q1]
      refine (ref05_with_spec (((h'.fresh f0).fresh f1).fresh f2) (fun b hb => by have := hA b hb; omega) i (x.1, k, s) ⟨by omega, by omega⟩).mono ?_
      rintro rv H3 ⟨hr, f3⟩
      have r2 := f3.own q2 (fun h => h)
      have hr' := hr
      obtain ⟨ha', hc', ca', cc', rfl, _⟩ := hr'
      simp (disch := (first | omega | (simp only [size_new, size_newm, size_wr, size_wrm] <;> omega) | fail)) only [go_sem, Nat.reduceBEq, Nat.reduceAdd, Nat.reduceMul, Nat.reduceLeDiff, ↓reduceIte, rd_new_lt, own_new_lt, mp_new_lt, rd_newm_lt, own_newm_lt, mp_newm_lt, rd_wr_ne, own_wr_ne, mp_wr_ne, rd_wrm_ne, own_wrm_ne, mp_wrm_ne, rd_new_eq, own_new_eq, mp_newm_eq, r2, rd_wr_same r2]
      have e3 : Ext (fun z => z = H.size + 1 + 1) H3 (H3.wr (H.size + 1 + 1) [.slice ha' (w.put i (x.1, k, s)).hs.length hc', .slice ca' (w.put i (x.1, k, s)).cs.length cc']) := (Ext.refl (fun z => z = H.size + 1 + 1) _).wr (fun _ => rfl) _
      have f4 := Fresh.then (((f0.trans f1).trans f2).trans f3) e3 (fun z hz => by omega)
      refine ⟨f4, .inr ⟨hi, x, hx, hl, _, rfl, (hr.ext e3 (fun b hb => ?_)).mono fun b hb => ?_⟩⟩
      · rcases hb with hb | hb
        · have := hA b hb; omega
        · omega
      · rcases hb with hb | hb
        · exact .inl hb
        · exact .inr (by rw [size_wr]; omega)
  · simp (disch := (first | omega | (simp only [size_new, size_newm, size_wr, size_wrm] <;> omega) | fail)) only [go_sem, Nat.reduceBEq, Nat.reduceAdd, Nat.reduceMul, Nat.reduceLeDiff, ↓reduceIte, rd_new_lt, own_new_lt, mp_new_lt, rd_newm_lt, own_newm_lt, mp_newm_lt, rd_wr_ne, own_wr_ne, mp_wr_ne, rd_wrm_ne, own_wrm_ne, mp_wrm_ne, rd_new_eq, own_new_eq, mp_newm_eq, rd_of_own p0, p2, rd_wr_same p2]
    have e3 : Ext (fun z => z = H.size + 1 + 1) H1 (H1.wr (H.size + 1 + 1) [.slice ha w.hs.length hc, .slice ca w.cs.length cc]) := (Ext.refl (fun z => z = H.size + 1 + 1) _).wr (fun _ => rfl) _
    have f3 := Fresh.then (f0.trans f1) e3 (fun z hz => by omega)
    exact ⟨f3, .inl ⟨fun hc => hi hc.1, _, rfl, (h'.fresh f3).mono fun b hb => .inl hb⟩⟩

theorem ref05_Len_spec {H : Hp} {v : Value} {w : Nw} {A : Nat → Prop} (h : NestR H v w A) (g : Int) : CallH Try.prog n_ref05_Len [v, i64 g] H fun r H' => Post (r = i64 (w.len g) ∧ Fresh H H') := by
  obtain ⟨ha, hc, ca, cc, rfl, h1, h2, h3, h4, a1, a2⟩ := h
  refine c_ref05_Len ⟨rfl, ?_⟩
  simp (disch := (first | omega | (simp only [size_new, size_newm, size_wr, size_wrm] <;> omega) | fail)) only [go_sem, Nat.reduceBEq, Nat.reduceAdd, Nat.reduceMul, Nat.reduceLeDiff, ↓reduceIte, rd_new_lt, own_new_lt, mp_new_lt, rd_newm_lt, own_newm_lt, mp_newm_lt, rd_wr_ne, own_wr_ne, mp_wr_ne, rd_wrm_ne, own_wrm_ne, mp_wrm_ne, rd_new_eq, own_new_eq, mp_newm_eq, s_ref05_Len]
  have f0 : Fresh H (H.new 108 [.slice ha w.hs.length hc, .slice ca w.cs.length cc]) := ((Ext.refl _ _).new _ _)
  have o0 : (H.new 108 [.slice ha w.hs.length hc, .slice ca w.cs.length cc]).own (H.size) = some [.slice ha w.hs.length hc, .slice ca w.cs.length cc] := by rw [own_new]
  have hz : (H.new 108 [.slice ha w.hs.length hc, .slice ca w.cs.length cc]).size = H.size + 1 := by simp only [size_new]
  generalize (H.new 108 [.slice ha w.hs.length hc, .slice ca w.cs.length cc]) = H0 at *
  refine LoopV.intro (fun m env H1 => ∃ i : Nat, env = [(1, i64 g), (5, i64 (if 0 < g then (((w.cs.take i).countP fun c => decide (c.1 = g) : Nat) : Int) else 0)), (9, .slice ca w.cs.length cc), (10, i64 w.cs.length), (11, i64 i)] ∧ Fresh H0 H1 ∧ i ≤ w.cs.length ∧ m = w.cs.length - i) w.cs.length
    ⟨0, by simp, Ext.refl _ _, by omega, by omega⟩ ?_
  rintro m env H1 ⟨i, rfl, f1, hi, rfl⟩
  simp (disch := (first | omega | (simp only [size_new, size_newm, size_wr, size_wrm] <;> omega) | fail)) only [go_sem, Nat.reduceBEq, Nat.reduceAdd, Nat.reduceMul, Nat.reduceLeDiff, ↓reduceIte, rd_new_lt, own_new_lt, mp_new_lt, rd_newm_lt, own_newm_lt, mp_newm_lt, rd_wr_ne, own_wr_ne, mp_wr_ne, rd_wrm_ne, own_wrm_ne, mp_wrm_ne, rd_new_eq, own_new_eq, mp_newm_eq]
  refine Both.dec (fun hin => ?_) (fun hin => ?_) <;> simp (disch := (first | omega | (simp only [size_new, size_newm, size_wr, size_wrm] <;> omega) | fail)) only [go_sem, Nat.reduceBEq, Nat.reduceAdd, Nat.reduceMul, Nat.reduceLeDiff, ↓reduceIte, rd_new_lt, own_new_lt, mp_new_lt, rd_newm_lt, own_newm_lt, mp_newm_lt, rd_wr_ne, own_wr_ne, mp_wr_ne, rd_wrm_ne, own_wrm_ne, mp_wrm_ne, rd_new_eq, own_new_eq, mp_newm_eq]
  · obtain ⟨x, hx⟩ : ∃ x, w.cs[i]? = some x := ⟨_, List.getElem?_eq_getElem (by omega)⟩
    obtain ⟨b, o, l, rfl, c1, c2, c3, c4, c5, c6, c7, c8⟩ := RdS.cell (h2.fresh (f0.trans f1)) hx
    have hcount := List.countP_le_length (p := fun c : Ce => decide (c.1 = g)) (l := w.cs.take i)
    have htl : (w.cs.take i).length ≤ 65536 := by rw [List.length_take]; omega
    have htake : ((w.cs.take (i + 1)).countP fun c => decide (c.1 = g)) = ((w.cs.take i).countP fun c => decide (c.1 = g)) + (if x.1 = g then 1 else 0) := by
      rw [List.take_add_one, hx, List.countP_append]
      simp
    refine ⟨by omega, ?_⟩
    simp (disch := (first | omega | (simp only [size_new, size_newm, size_wr, size_wrm] <;> omega) | fail)) only [go_sem, Nat.reduceBEq, Nat.reduceAdd, Nat.reduceMul, Nat.reduceLeDiff, ↓reduceIte, rd_new_lt, own_new_lt, mp_new_lt, rd_newm_lt, own_newm_lt, mp_newm_lt, rd_wr_ne, own_wr_ne, mp_wr_ne, rd_wrm_ne, own_wrm_ne, mp_wrm_ne, rd_new_eq, own_new_eq, mp_newm_eq, c1, Int.toNat_natCast]
    refine ⟨by omega, ?_⟩
    simp (disch := (first | omega | (simp only [size_new, size_newm, size_wr, size_wrm] <;> omega) | fail)) only [go_sem, Nat.reduceBEq, Nat.reduceAdd, Nat.reduceMul, Nat.reduceLeDiff, ↓reduceIte, rd_new_lt, own_new_lt, mp_new_lt, rd_newm_lt, own_newm_lt, mp_newm_lt, rd_wr_ne, own_wr_ne, mp_wr_ne, rd_wrm_ne, own_wrm_ne, mp_wrm_ne, rd_new_eq, own_new_eq, mp_newm_eq, c7]
    have e5 : Fresh H1 ((H1.new 147 [.int .i64 0, .int .i64 0, .int .u64 0]).wr H1.size [i64 x.1, i64 x.2.1, u64 x.2.2]) := ((Ext.refl _ _).new _ _).wr (fun h => absurd h (Nat.lt_irrefl _)) _
    have bx : ((H1.new 147 [.int .i64 0, .int .i64 0, .int .u64 0]).wr H1.size [i64 x.1, i64 x.2.1, u64 x.2.2]).own H1.size = some [i64 x.1, i64 x.2.1, u64 x.2.2] := own_wr_same (own_new _ _ _)
    simp (disch := (first | omega | (simp only [size_new, size_newm, size_wr, size_wrm] <;> omega) | fail)) only [go_sem, Nat.reduceBEq, Nat.reduceAdd, Nat.reduceMul, Nat.reduceLeDiff, ↓reduceIte, rd_new_lt, own_new_lt, mp_new_lt, rd_newm_lt, own_newm_lt, mp_newm_lt, rd_wr_ne, own_wr_ne, mp_wr_ne, rd_wrm_ne, own_wrm_ne, mp_wrm_ne, rd_new_eq, own_new_eq, mp_newm_eq, rd_of_own bx]
    refine Both.dec (fun he => ?_) (fun he => ?_) <;> simp (disch := (first | omega | (simp only [size_new, size_newm, size_wr, size_wrm] <;> omega) | fail)) only [go_sem, Nat.reduceBEq, Nat.reduceAdd, Nat.reduceMul, Nat.reduceLeDiff, ↓reduceIte, rd_new_lt, own_new_lt, mp_new_lt, rd_newm_lt, own_newm_lt, mp_newm_lt, rd_wr_ne, own_wr_ne, mp_wr_ne, rd_wrm_ne, own_wrm_ne, mp_wrm_ne, rd_new_eq, own_new_eq, mp_newm_eq]
    · refine Both.dec (fun hg => ?_) (fun hg => ?_) <;> simp (disch := (first | omega | (simp only [size_new, size_newm, size_wr, size_wrm] <;> omega) | fail)) only [go_sem, Nat.reduceBEq, Nat.reduceAdd, Nat.reduceMul, Nat.reduceLeDiff, ↓reduceIte, rd_new_lt, own_new_lt, mp_new_lt, rd_newm_lt, own_newm_lt, mp_newm_lt, rd_wr_ne, own_wr_ne, mp_wr_ne, rd_wrm_ne, own_wrm_ne, mp_wrm_ne, rd_new_eq, own_new_eq, mp_newm_eq]
      · rw [if_pos hg, wrap64 (by omega) (by omega), wrap64 (by omega) (by omega)]
        refine ⟨w.cs.length - (i + 1), by omega, i + 1, ?_, f1.trans e5, by omega, rfl⟩
        rw [htake, if_pos he, if_pos hg]
        rfl
      · rw [if_neg hg, wrap64 (n := (i : Int) + 1) (by omega) (by omega)]
        refine ⟨w.cs.length - (i + 1), by omega, i + 1, ?_, f1.trans e5, by omega, rfl⟩
        rw [if_neg hg]
        rfl
    · rw [wrap64 (n := (i : Int) + 1) (by omega) (by omega)]
      refine ⟨w.cs.length - (i + 1), by omega, i + 1, ?_, f1.trans e5, by omega, rfl⟩
      rw [htake, if_neg he]
      rfl
  · refine ⟨congrArg i64 ?_, f0.trans f1⟩
    unfold Nw.len
    rw [List.take_of_length_le (by omega)]

theorem eqVs_ent (k s k' s' : Int) : eqVs [(0, none, .int), (1, none, .int)] [i64 k, u64 s] [i64 k', u64 s'] = some (decide (k = k' ∧ s = s')) := by
  by_cases h1 : k = k' <;> by_cases h2 : s = s' <;> simp [eqVs, partL, eqV, simpleEq, h1, h2]

theorem lessE_iff (k s k' s' : Int) : (cmpE k s k' s' < 0 ↔ lessE k s k' s') ∧ (cmpE k s k' s' = 0 ↔ (k = k' ∧ s = s')) := by
  refine ⟨cmpE_neg k s k' s', ?_⟩
  unfold cmpE orI cmpI
  simp only [List.find?]
  by_cases h1 : k < k'
  · simp [h1]; omega
  · by_cases h2 : k' < k
    · simp [h1, h2]; omega
    · by_cases h3 : s < s'
      · simp [h1, h2, h3]; omega
      · by_cases h4 : s' < s
        · simp [h1, h2, h3, h4]; omega
        · simp [h1, h2, h3, h4]; omega

theorem aheadC_iff (a b : Int) (x y : Ce) : AheadC a b x y ↔ (lessE x.2.1 x.2.2 y.2.1 y.2.2 ∨ (x.2.1 = y.2.1 ∧ x.2.2 = y.2.2) ∧ a < b) := by
  unfold AheadC
  rw [(lessE_iff _ _ _ _).1, (lessE_iff _ _ _ _).2]

theorem ref05_Ahead_spec {H : Hp} {v : Value} {w : Nw} {A : Nat → Prop} (h : NestR H v w A) (a b : Int) : CallH Try.prog n_ref05_Ahead [v, i64 a, i64 b] H fun r H' => Post (r = .bool (w.ahead a b) ∧ Fresh H H') := by
  have h' := h
  obtain ⟨ha, hc, ca, cc, rfl, h1, h2, h3, h4, a1, a2⟩ := h
  refine c_ref05_Ahead ⟨rfl, ?_⟩
  simp (disch := (first | omega | (simp only [size_new, size_newm, size_wr, size_wrm] <;> omega) | fail)) only [go_sem, Nat.reduceBEq, Nat.reduceAdd, Nat.reduceMul, Nat.reduceLeDiff, ↓reduceIte, rd_new_lt, own_new_lt, mp_new_lt, rd_newm_lt, own_newm_lt, mp_newm_lt, rd_wr_ne, own_wr_ne, mp_wr_ne, rd_wrm_ne, own_wrm_ne, mp_wrm_ne, rd_new_eq, own_new_eq, mp_newm_eq, s_ref05_Ahead]
  have f0 : Fresh H (H.new 108 [.slice ha w.hs.length hc, .slice ca w.cs.length cc]) := ((Ext.refl _ _).new _ _)
  have o0 : (H.new 108 [.slice ha w.hs.length hc, .slice ca w.cs.length cc]).own (H.size) = some [.slice ha w.hs.length hc, .slice ca w.cs.length cc] := by rw [own_new]
  have hz : (H.new 108 [.slice ha w.hs.length hc, .slice ca w.cs.length cc]).size = H.size + 1 := by simp only [size_new]
  generalize (H.new 108 [.slice ha w.hs.length hc, .slice ca w.cs.length cc]) = H0 at *
  refine (ref05_In_spec (h'.fresh f0) a).mono ?_
  rintro _ H1 ⟨rfl, f1⟩
  have p0 := f1.own o0 (fun h => h)
  simp (disch := (first | omega | (simp only [size_new, size_newm, size_wr, size_wrm] <;> omega) | fail)) only [go_sem, Nat.reduceBEq, Nat.reduceAdd, Nat.reduceMul, Nat.reduceLeDiff, ↓reduceIte, rd_new_lt, own_new_lt, mp_new_lt, rd_newm_lt, own_newm_lt, mp_newm_lt, rd_wr_ne, own_wr_ne, mp_wr_ne, rd_wrm_ne, own_wrm_ne, mp_wrm_ne, rd_new_eq, own_new_eq, mp_newm_eq]
  refine Both.dec (fun hia => ?_) (fun hia => ?_) <;> simp (disch := (first | omega | (simp only [size_new, size_newm, size_wr, size_wrm] <;> omega) | fail)) only [go_sem, Nat.reduceBEq, Nat.reduceAdd, Nat.reduceMul, Nat.reduceLeDiff, ↓reduceIte, rd_new_lt, own_new_lt, mp_new_lt, rd_newm_lt, own_newm_lt, mp_newm_lt, rd_wr_ne, own_wr_ne, mp_wr_ne, rd_wrm_ne, own_wrm_ne, mp_wrm_ne, rd_new_eq, own_new_eq, mp_newm_eq, rd_of_own p0]
  · refine (ref05_In_spec ((h'.fresh f0).fresh f1) b).mono ?_
    rintro _ H2 ⟨rfl, f2⟩
    have q0 := f2.own p0 (fun h => h)
    have q3 := own_lt q0
    simp (disch := (first | omega | (simp only [size_new, size_newm, size_wr, size_wrm] <;> omega) | fail)) only [go_sem, Nat.reduceBEq, Nat.reduceAdd, Nat.reduceMul, Nat.reduceLeDiff, ↓reduceIte, rd_new_lt, own_new_lt, mp_new_lt, rd_newm_lt, own_newm_lt, mp_newm_lt, rd_wr_ne, own_wr_ne, mp_wr_ne, rd_wrm_ne, own_wrm_ne, mp_wrm_ne, rd_new_eq, own_new_eq, mp_newm_eq]
    refine Both.dec (fun hib => ?_) (fun hib => ?_) <;> simp (disch := (first | omega | (simp only [size_new, size_newm, size_wr, size_wrm] <;> omega) | fail)) only [go_sem, Nat.reduceBEq, Nat.reduceAdd, Nat.reduceMul, Nat.reduceLeDiff, ↓reduceIte, rd_new_lt, own_new_lt, mp_new_lt, rd_newm_lt, own_newm_lt, mp_newm_lt, rd_wr_ne, own_wr_ne, mp_wr_ne, rd_wrm_ne, own_wrm_ne, mp_wrm_ne, rd_new_eq, own_new_eq, mp_newm_eq, rd_of_own q0]
    · obtain ⟨ha0, x, hx, _⟩ := id hia
      obtain ⟨hb0, y, hy, _⟩ := id hib
      have hal := (List.getElem?_eq_some_iff.1 hx).1
      have hbl := (List.getElem?_eq_some_iff.1 hy).1
      obtain ⟨bb, o, l, rfl, c1, c2, c3, c4, c5, c6, c7, c8⟩ := RdS.cell (h2.fresh ((f0.trans f1).trans f2)) hx
      obtain ⟨bb', o', l', ee, d1, d2, d3, d4, d5, d6, d7, d8⟩ := RdS.cell (h2.fresh ((f0.trans f1).trans f2)) hy
      injection ee with ee
      injection ee with e1 e2 _
      subst e1; subst e2
      rw [c1] at d1
      injection d1 with d1
      subst d1
      have hbb := rd_lt c1
      refine ⟨by omega, ?_⟩
      simp (disch := (first | omega | (simp only [size_new, size_newm, size_wr, size_wrm] <;> omega) | fail)) only [go_sem, Nat.reduceBEq, Nat.reduceAdd, Nat.reduceMul, Nat.reduceLeDiff, ↓reduceIte, rd_new_lt, own_new_lt, mp_new_lt, rd_newm_lt, own_newm_lt, mp_newm_lt, rd_wr_ne, own_wr_ne, mp_wr_ne, rd_wrm_ne, own_wrm_ne, mp_wrm_ne, rd_new_eq, own_new_eq, mp_newm_eq, c1, c8]
      refine ⟨by omega, ?_⟩
      simp (disch := (first | omega | (simp only [size_new, size_newm, size_wr, size_wrm] <;> omega) | fail)) only [go_sem, Nat.reduceBEq, Nat.reduceAdd, Nat.reduceMul, Nat.reduceLeDiff, ↓reduceIte, rd_new_lt, own_new_lt, mp_new_lt, rd_newm_lt, own_newm_lt, mp_newm_lt, rd_wr_ne, own_wr_ne, mp_wr_ne, rd_wrm_ne, own_wrm_ne, mp_wrm_ne, rd_new_eq, own_new_eq, mp_newm_eq, c8]
      have f3 : Fresh H2 ((H2.new 70 [.int .i64 0, .int .u64 0]).wr H2.size [i64 x.2.1, u64 x.2.2]) := ((Ext.refl _ _).new _ _).wr (fun h => absurd h (Nat.lt_irrefl _)) _
      have r1 : ((H2.new 70 [.int .i64 0, .int .u64 0]).wr H2.size [i64 x.2.1, u64 x.2.2]).own H2.size = some [i64 x.2.1, u64 x.2.2] := own_wr_same (own_new _ _ _)
      have hz3 : ((H2.new 70 [.int .i64 0, .int .u64 0]).wr H2.size [i64 x.2.1, u64 x.2.2]).size = H2.size + 1 := by simp only [size_wr, size_new]
      generalize (H2.new 70 [.int .i64 0, .int .u64 0]).wr H2.size [i64 x.2.1, u64 x.2.2] = H3 at *
      have r0 := f3.own q0 (fun h => h)
      have g1 := f3.rd c1 (fun h => h)
      simp (disch := (first | omega | (simp only [size_new, size_newm, size_wr, size_wrm] <;> omega) | fail)) only [go_sem, Nat.reduceBEq, Nat.reduceAdd, Nat.reduceMul, Nat.reduceLeDiff, ↓reduceIte, rd_new_lt, own_new_lt, mp_new_lt, rd_newm_lt, own_newm_lt, mp_newm_lt, rd_wr_ne, own_wr_ne, mp_wr_ne, rd_wrm_ne, own_wrm_ne, mp_wrm_ne, rd_new_eq, own_new_eq, mp_newm_eq, rd_of_own q0]
      refine ⟨by omega, ?_⟩
      simp (disch := (first | omega | (simp only [size_new, size_newm, size_wr, size_wrm] <;> omega) | fail)) only [go_sem, Nat.reduceBEq, Nat.reduceAdd, Nat.reduceMul, Nat.reduceLeDiff, ↓reduceIte, rd_new_lt, own_new_lt, mp_new_lt, rd_newm_lt, own_newm_lt, mp_newm_lt, rd_wr_ne, own_wr_ne, mp_wr_ne, rd_wrm_ne, own_wrm_ne, mp_wrm_ne, rd_new_eq, own_new_eq, mp_newm_eq, g1, d8]
      refine ⟨by omega, ?_⟩
      simp (disch := (first | omega | (simp only [size_new, size_newm, size_wr, size_wrm] <;> omega) | fail)) only [go_sem, Nat.reduceBEq, Nat.reduceAdd, Nat.reduceMul, Nat.reduceLeDiff, ↓reduceIte, rd_new_lt, own_new_lt, mp_new_lt, rd_newm_lt, own_newm_lt, mp_newm_lt, rd_wr_ne, own_wr_ne, mp_wr_ne, rd_wrm_ne, own_wrm_ne, mp_wrm_ne, rd_new_eq, own_new_eq, mp_newm_eq, d8]
      have f4 : Fresh H3 ((H3.new 70 [.int .i64 0, .int .u64 0]).wr H3.size [i64 y.2.1, u64 y.2.2]) := ((Ext.refl _ _).new _ _).wr (fun h => absurd h (Nat.lt_irrefl _)) _
      have t2 : ((H3.new 70 [.int .i64 0, .int .u64 0]).wr H3.size [i64 y.2.1, u64 y.2.2]).own H3.size = some [i64 y.2.1, u64 y.2.2] := own_wr_same (own_new _ _ _)
      have t1 := f4.own r1 (fun h => h)
      generalize (H3.new 70 [.int .i64 0, .int .u64 0]).wr H3.size [i64 y.2.1, u64 y.2.2] = H4 at *
      simp (disch := (first | omega | (simp only [size_new, size_newm, size_wr, size_wrm] <;> omega) | fail)) only [go_sem, Nat.reduceBEq, Nat.reduceAdd, Nat.reduceMul, Nat.reduceLeDiff, ↓reduceIte, rd_new_lt, own_new_lt, mp_new_lt, rd_newm_lt, own_newm_lt, mp_newm_lt, rd_wr_ne, own_wr_ne, mp_wr_ne, rd_wrm_ne, own_wrm_ne, mp_wrm_ne, rd_new_eq, own_new_eq, mp_newm_eq, rd_of_own r1, rd_of_own t1, rd_of_own t2]
      refine (ref01_Less_spec x.2.1 x.2.2 y.2.1 y.2.2 H4).mono ?_
      rintro _ H5 ⟨rfl, f5⟩
      have u1 := f5.own t1 (fun h => h)
      have u2 := f5.own t2 (fun h => h)
      have ff := ((((f0.trans f1).trans f2).trans f3).trans f4).trans f5
      have hw : w.ahead a b = decide (AheadC a b x y) := by unfold Nw.ahead; rw [decide_eq_true hia, decide_eq_true hib, hx, hy]; rfl
      simp (disch := (first | omega | (simp only [size_new, size_newm, size_wr, size_wrm] <;> omega) | fail)) only [go_sem, Nat.reduceBEq, Nat.reduceAdd, Nat.reduceMul, Nat.reduceLeDiff, ↓reduceIte, rd_new_lt, own_new_lt, mp_new_lt, rd_newm_lt, own_newm_lt, mp_newm_lt, rd_wr_ne, own_wr_ne, mp_wr_ne, rd_wrm_ne, own_wrm_ne, mp_wrm_ne, rd_new_eq, own_new_eq, mp_newm_eq]
      refine Both.dec (fun hl => ?_) (fun hl => ?_) <;> simp (disch := (first | omega | (simp only [size_new, size_newm, size_wr, size_wrm] <;> omega) | fail)) only [go_sem, Nat.reduceBEq, Nat.reduceAdd, Nat.reduceMul, Nat.reduceLeDiff, ↓reduceIte, rd_new_lt, own_new_lt, mp_new_lt, rd_newm_lt, own_newm_lt, mp_newm_lt, rd_wr_ne, own_wr_ne, mp_wr_ne, rd_wrm_ne, own_wrm_ne, mp_wrm_ne, rd_new_eq, own_new_eq, mp_newm_eq, rd_of_own u1, rd_of_own u2]
      · exact ⟨congrArg Value.bool (by rw [hw]; exact (decide_eq_true ((aheadC_iff a b x y).2 (.inl hl))).symm), ff⟩
      · rw [eqVs_ent, Option.map_some]
        simp (disch := (first | omega | (simp only [size_new, size_newm, size_wr, size_wrm] <;> omega) | fail)) only [go_sem, Nat.reduceBEq, Nat.reduceAdd, Nat.reduceMul, Nat.reduceLeDiff, ↓reduceIte, rd_new_lt, own_new_lt, mp_new_lt, rd_newm_lt, own_newm_lt, mp_newm_lt, rd_wr_ne, own_wr_ne, mp_wr_ne, rd_wrm_ne, own_wrm_ne, mp_wrm_ne, rd_new_eq, own_new_eq, mp_newm_eq]
        have hn : ∀ hh : Bool, (hh = true ↔ AheadC a b x y) → hh = w.ahead a b := fun hh hi => by rw [hw]; cases hh <;> simp_all
        refine Both.dec (fun he => ?_) (fun he => ?_) <;> simp (disch := (first | omega | (simp only [size_new, size_newm, size_wr, size_wrm] <;> omega) | fail)) only [go_sem, Nat.reduceBEq, Nat.reduceAdd, Nat.reduceMul, Nat.reduceLeDiff, ↓reduceIte, rd_new_lt, own_new_lt, mp_new_lt, rd_newm_lt, own_newm_lt, mp_newm_lt, rd_wr_ne, own_wr_ne, mp_wr_ne, rd_wrm_ne, own_wrm_ne, mp_wrm_ne, rd_new_eq, own_new_eq, mp_newm_eq]
        · exact ⟨congrArg Value.bool (hn _ (by rw [decide_eq_true_eq, aheadC_iff]; exact ⟨fun h => .inr ⟨he, h⟩, fun h => h.elim (fun h => absurd h hl) (fun h => h.2)⟩)), ff⟩
        · exact ⟨congrArg Value.bool (hn false ⟨fun h => (by cases h), fun h => ((aheadC_iff a b x y).1 h).elim (fun h => absurd h hl) (fun h => absurd h.1 he)⟩), ff⟩
    · exact ⟨congrArg Value.bool (by unfold Nw.ahead; simp [hib]), (f0.trans f1).trans f2⟩
  · exact ⟨congrArg Value.bool (by unfold Nw.ahead; simp [hia]), f0.trans f1⟩

theorem ref05_Make_spec {H : Hp} {v : Value} {w : Nw} {A : Nat → Prop} (h : NestR H v w A) (hA : ∀ b, A b → b < H.size) :
    CallH Try.prog n_ref05_Make [v] H fun r H' => Post (Fresh H H' ∧ ((w.hs.length = 65537 ∧ ∃ v', r = .tuple [v', i64 0].toArray ∧ NestR H' v' w (Grow A H H')) ∨
      (w.hs.length ≠ 65537 ∧ ∃ v', r = .tuple [v', i64 w.hs.length].toArray ∧ NestR H' v' w.make (Grow A H H')))) := by
  have h' := h
  obtain ⟨ha, hc, ca, cc, rfl, h1, h2, h3, h4, a1, a2⟩ := h
  refine c_ref05_Make ⟨rfl, ?_⟩
  simp (disch := (first | omega | (simp only [size_new, size_newm, size_wr, size_wrm] <;> omega) | fail)) only [go_sem, Nat.reduceBEq, Nat.reduceAdd, Nat.reduceMul, Nat.reduceLeDiff, ↓reduceIte, rd_new_lt, own_new_lt, mp_new_lt, rd_newm_lt, own_newm_lt, mp_newm_lt, rd_wr_ne, own_wr_ne, mp_wr_ne, rd_wrm_ne, own_wrm_ne, mp_wrm_ne, rd_new_eq, own_new_eq, mp_newm_eq, s_ref05_Make]
  have f0 : Fresh H ((H.new 108 [.slice ha w.hs.length hc, .slice ca w.cs.length cc]).new 108 [.slice none 0 0, .slice none 0 0]) := (((Ext.refl _ _).new _ _).new _ _)
  have o0 : ((H.new 108 [.slice ha w.hs.length hc, .slice ca w.cs.length cc]).new 108 [.slice none 0 0, .slice none 0 0]).own (H.size) = some [.slice ha w.hs.length hc, .slice ca w.cs.length cc] := by rw [own_new_lt (by simp only [size_new]; omega), own_new]
  have o1 : ((H.new 108 [.slice ha w.hs.length hc, .slice ca w.cs.length cc]).new 108 [.slice none 0 0, .slice none 0 0]).own (H.size + 1) = some [.slice none 0 0, .slice none 0 0] := by rw [own_new_eq (by simp only [size_new])]
  have hz : ((H.new 108 [.slice ha w.hs.length hc, .slice ca w.cs.length cc]).new 108 [.slice none 0 0, .slice none 0 0]).size = H.size + 2 := by simp only [size_new]
  generalize ((H.new 108 [.slice ha w.hs.length hc, .slice ca w.cs.length cc]).new 108 [.slice none 0 0, .slice none 0 0]) = H0 at *
  refine Both.dec (fun hl => ?_) (fun hl => ?_) <;> simp (disch := (first | omega | (simp only [size_new, size_newm, size_wr, size_wrm] <;> omega) | fail)) only [go_sem, Nat.reduceBEq, Nat.reduceAdd, Nat.reduceMul, Nat.reduceLeDiff, ↓reduceIte, rd_new_lt, own_new_lt, mp_new_lt, rd_newm_lt, own_newm_lt, mp_newm_lt, rd_wr_ne, own_wr_ne, mp_wr_ne, rd_wrm_ne, own_wrm_ne, mp_wrm_ne, rd_new_eq, own_new_eq, mp_newm_eq, rd_of_own o0]
  · simp (disch := (first | omega | (simp only [size_new, size_newm, size_wr, size_wrm] <;> omega) | fail)) only [go_sem, Nat.reduceBEq, Nat.reduceAdd, Nat.reduceMul, Nat.reduceLeDiff, ↓reduceIte, rd_new_lt, own_new_lt, mp_new_lt, rd_newm_lt, own_newm_lt, mp_newm_lt, rd_wr_ne, own_wr_ne, mp_wr_ne, rd_wrm_ne, own_wrm_ne, mp_wrm_ne, rd_new_eq, own_new_eq, mp_newm_eq, o1, rd_wr_same o1]
    have e3 : Ext (fun z => z = H.size + 1) H0 (H0.wr (H.size + 1) [.slice ha w.hs.length hc, .slice ca w.cs.length cc]) := (Ext.refl (fun z => z = H.size + 1) _).wr (fun _ => rfl) _
    have f3 := Fresh.then f0 e3 (fun z hz => by omega)
    exact ⟨f3, .inl ⟨by omega, _, rfl, (h'.fresh f3).mono fun b hb => .inl hb⟩⟩
  · refine InvV.intro (fun H' => H'.own H.size = some [.slice ha w.hs.length hc, .slice ca w.cs.length cc]) o0 ?_
    simp (disch := (first | omega | (simp only [size_new, size_newm, size_wr, size_wrm] <;> omega) | fail)) only [go_sem, Nat.reduceBEq, Nat.reduceAdd, Nat.reduceMul, Nat.reduceLeDiff, ↓reduceIte, rd_new_lt, own_new_lt, mp_new_lt, rd_newm_lt, own_newm_lt, mp_newm_lt, rd_wr_ne, own_wr_ne, mp_wr_ne, rd_wrm_ne, own_wrm_ne, mp_wrm_ne, rd_new_eq, own_new_eq, mp_newm_eq]
    refine StbV.intro (.slice ha w.hs.length hc) (fun H' hI => ?_) ?_
    · simp (disch := (first | omega | (simp only [size_new, size_newm, size_wr, size_wrm] <;> omega) | fail)) only [go_sem, Nat.reduceBEq, Nat.reduceAdd, Nat.reduceMul, Nat.reduceLeDiff, ↓reduceIte, rd_new_lt, own_new_lt, mp_new_lt, rd_newm_lt, own_newm_lt, mp_newm_lt, rd_wr_ne, own_wr_ne, mp_wr_ne, rd_wrm_ne, own_wrm_ne, mp_wrm_ne, rd_new_eq, own_new_eq, mp_newm_eq, rd_of_own hI]
      exact ⟨trivial, trivial⟩
    simp (disch := (first | omega | (simp only [size_new, size_newm, size_wr, size_wrm] <;> omega) | fail)) only [go_sem, Nat.reduceBEq, Nat.reduceAdd, Nat.reduceMul, Nat.reduceLeDiff, ↓reduceIte, rd_new_lt, own_new_lt, mp_new_lt, rd_newm_lt, own_newm_lt, mp_newm_lt, rd_wr_ne, own_wr_ne, mp_wr_ne, rd_wrm_ne, own_wrm_ne, mp_wrm_ne, rd_new_eq, own_new_eq, mp_newm_eq]
    refine StbV.intro (.slice ca w.cs.length cc) (fun H' hI => ?_) ?_
    · simp (disch := (first | omega | (simp only [size_new, size_newm, size_wr, size_wrm] <;> omega) | fail)) only [go_sem, Nat.reduceBEq, Nat.reduceAdd, Nat.reduceMul, Nat.reduceLeDiff, ↓reduceIte, rd_new_lt, own_new_lt, mp_new_lt, rd_newm_lt, own_newm_lt, mp_newm_lt, rd_wr_ne, own_wr_ne, mp_wr_ne, rd_wrm_ne, own_wrm_ne, mp_wrm_ne, rd_new_eq, own_new_eq, mp_newm_eq, rd_of_own hI]
      exact ⟨trivial, trivial⟩
    simp (disch := (first | omega | (simp only [size_new, size_newm, size_wr, size_wrm] <;> omega) | fail)) only [go_sem, Nat.reduceBEq, Nat.reduceAdd, Nat.reduceMul, Nat.reduceLeDiff, ↓reduceIte, rd_new_lt, own_new_lt, mp_new_lt, rd_newm_lt, own_newm_lt, mp_newm_lt, rd_wr_ne, own_wr_ne, mp_wr_ne, rd_wrm_ne, own_wrm_ne, mp_wrm_ne, rd_new_eq, own_new_eq, mp_newm_eq]
    refine StbV.intro (.slice ha w.hs.length hc) (fun H' hI => ?_) ?_
    · simp (disch := (first | omega | (simp only [size_new, size_newm, size_wr, size_wrm] <;> omega) | fail)) only [go_sem, Nat.reduceBEq, Nat.reduceAdd, Nat.reduceMul, Nat.reduceLeDiff, ↓reduceIte, rd_new_lt, own_new_lt, mp_new_lt, rd_newm_lt, own_newm_lt, mp_newm_lt, rd_wr_ne, own_wr_ne, mp_wr_ne, rd_wrm_ne, own_wrm_ne, mp_wrm_ne, rd_new_eq, own_new_eq, mp_newm_eq, rd_of_own hI]
      exact ⟨trivial, trivial⟩
    have fin : ∀ (H2 : Hp) (v2 : Value) (fp : Option Nat), Fresh H0 H2 → Sl H2 1 v2 (w.hs.length + 1) (w.hs.map Value.bool ++ [.bool true]) fp → (∀ b, fp = some b → H0.size ≤ b) →
        ∃ a2 c2, v2 = .slice a2 (w.hs.length + 1) c2 ∧ H2.own (H.size + 1) = some [.slice none 0 0, .slice none 0 0] ∧
        Post (Fresh H (H2.wr (H.size + 1) [.slice a2 (w.hs.length + 1) c2, .slice ca w.cs.length cc]) ∧ ((w.hs.length = 65537 ∧ ∃ v', Value.tuple [.agg [.slice a2 (w.hs.length + 1) c2, .slice ca w.cs.length cc].toArray, i64 w.hs.length].toArray = .tuple [v', i64 0].toArray ∧ NestR (H2.wr (H.size + 1) [.slice a2 (w.hs.length + 1) c2, .slice ca w.cs.length cc]) v' w (Grow A H (H2.wr (H.size + 1) [.slice a2 (w.hs.length + 1) c2, .slice ca w.cs.length cc]))) ∨
          (w.hs.length ≠ 65537 ∧ ∃ v', Value.tuple [.agg [.slice a2 (w.hs.length + 1) c2, .slice ca w.cs.length cc].toArray, i64 w.hs.length].toArray = .tuple [v', i64 w.hs.length].toArray ∧ NestR (H2.wr (H.size + 1) [.slice a2 (w.hs.length + 1) c2, .slice ca w.cs.length cc]) v' w.make (Grow A H (H2.wr (H.size + 1) [.slice a2 (w.hs.length + 1) c2, .slice ca w.cs.length cc]))))) := by
      intro H2 v2 fp f2 s2 hfp
      obtain ⟨a2', c2, rfl⟩ := RdS.val2 s2.rd
      have e3 : Ext (fun z => z = H.size + 1) H2 (H2.wr (H.size + 1) [.slice a2' (w.hs.length + 1) c2, .slice ca w.cs.length cc]) := (Ext.refl (fun z => z = H.size + 1) _).wr (fun _ => rfl) _
      have f3 := Fresh.then (f0.trans f2) e3 (fun z hz => by omega)
      refine ⟨a2', c2, rfl, f2.own o1 (fun h => h), f3, .inr ⟨by omega, _, rfl, a2', c2, ca, cc, by simp [Nw.make], ?_, h2.fresh f3, by simp [Nw.make]; omega, h4, fun x hx => .inr ?_, fun x hx => .inl (a2 x hx)⟩⟩
      · have := (s2.ext e3 (fun b hb e => by have := hfp b hb; omega)).rd
        simpa [Nw.make] using this
      · have hb : fp = some x.block := by
          obtain ⟨_, s2⟩ := s2
          cases fp with
          | none => exact absurd s2.1 (by omega)
          | some b => obtain ⟨l, c, e, _⟩ := s2; injection e with e _ _; rw [e] at hx; injection hx with hx; subst hx; rfl
        have h5 := hfp _ hb
        have h6 := Sl.lt (hb ▸ s2)
        rw [size_wr]
        exact ⟨by omega, h6⟩
    have f1 : ∀ Hc l, Fresh Hc (Hc.new 4 l) := fun Hc l => (Ext.refl _ _).new _ _
    simp (disch := (first | omega | (simp only [size_new, size_newm, size_wr, size_wrm] <;> omega) | fail)) only [go_sem, Nat.reduceBEq, Nat.reduceAdd, Nat.reduceMul, Nat.reduceLeDiff, ↓reduceIte, rd_new_lt, own_new_lt, mp_new_lt, rd_newm_lt, own_newm_lt, mp_newm_lt, rd_wr_ne, own_wr_ne, mp_wr_ne, rd_wrm_ne, own_wrm_ne, mp_wrm_ne, rd_new_eq, own_new_eq, mp_newm_eq]
    refine Two.intro ?_ ?_
    · simp (disch := (first | omega | (simp only [size_new, size_newm, size_wr, size_wrm] <;> omega) | fail)) only [go_sem, Nat.reduceBEq, Nat.reduceAdd, Nat.reduceMul, Nat.reduceLeDiff, ↓reduceIte, rd_new_lt, own_new_lt, mp_new_lt, rd_newm_lt, own_newm_lt, mp_newm_lt, rd_wr_ne, own_wr_ne, mp_wr_ne, rd_wrm_ne, own_wrm_ne, mp_wrm_ne, rd_new_eq, own_new_eq, mp_newm_eq, o0]
      refine Two.intro ?_ ?_
      · simp (disch := (first | omega | (simp only [size_new, size_newm, size_wr, size_wrm] <;> omega) | fail)) only [go_sem, Nat.reduceBEq, Nat.reduceAdd, Nat.reduceMul, Nat.reduceLeDiff, ↓reduceIte, rd_new_lt, own_new_lt, mp_new_lt, rd_newm_lt, own_newm_lt, mp_newm_lt, rd_wr_ne, own_wr_ne, mp_wr_ne, rd_wrm_ne, own_wrm_ne, mp_wrm_ne, rd_new_eq, own_new_eq, mp_newm_eq]
        refine Sl.append (Sl.lit_at (size := 1) (n := 0) (xs := []) rfl rfl) (h1.fresh (f0.trans (f1 H0 []))) rfl (allOne_bools _) (by omega) ?_
        intro v12 H2 fp12 s12 e12 hfp12
        rw [Nat.zero_add, List.nil_append] at s12
        have fb12 : ∀ b, fp12 = some b → H0.size ≤ b ∧ b ≠ H0.size + 1 + 1000000000000 * 0 + H0.size * 0 + (b + 1) := fun b hb => by
          rcases hfp12 with h | ⟨x, h, h5, _⟩
          · rw [h] at hb; injection hb with hb; omega
          · rw [h] at hb; injection hb with hb; simp only [size_new] at h5; omega
        have f2 : Fresh H0 H2 := Fresh.then (f1 H0 []) e12 (fun z hz => by injection hz with hz; omega)
        have o02 := f2.own o0 (fun h => h)
        have z2 := f2.size
        simp (disch := (first | omega | (simp only [size_new, size_newm, size_wr, size_wrm] <;> omega) | fail)) only [go_sem, Nat.reduceBEq, Nat.reduceAdd, Nat.reduceMul, Nat.reduceLeDiff, ↓reduceIte, rd_new_lt, own_new_lt, mp_new_lt, rd_newm_lt, own_newm_lt, mp_newm_lt, rd_wr_ne, own_wr_ne, mp_wr_ne, rd_wrm_ne, own_wrm_ne, mp_wrm_ne, rd_new_eq, own_new_eq, mp_newm_eq, o02]
        refine Sl.append (s12.ext (f1 H2 [.bool true]) (fun _ _ h => h)) (Sl.lit_at (size := 1) (xs := [.bool true]) rfl rfl).rd rfl (allOne_bools [true]) (by omega) ?_
        intro v14 H4 fp14 s14 e14 hfp14
        have f4 : Fresh H0 H4 := Fresh.then (f2.trans (f1 H2 [.bool true])) e14 (fun z hz => (fb12 z hz).1)
        have fb14 : ∀ b, fp14 = some b → H0.size ≤ b := fun b hb => by
          rcases hfp14 with h | ⟨x, h, h5, _⟩
          · exact (fb12 b (h ▸ hb)).1
          · rw [h] at hb; injection hb with hb; have := (f2.trans (f1 H2 [.bool true])).size; omega
        obtain ⟨a2', c2, rfl, on, fin⟩ := fin H4 v14 fp14 f4 s14 fb14
        have o04 := f4.own o0 (fun h => h)
        simp (disch := (first | omega | (simp only [size_new, size_newm, size_wr, size_wrm] <;> omega) | fail)) only [go_sem, Nat.reduceBEq, Nat.reduceAdd, Nat.reduceMul, Nat.reduceLeDiff, ↓reduceIte, rd_new_lt, own_new_lt, mp_new_lt, rd_newm_lt, own_newm_lt, mp_newm_lt, rd_wr_ne, own_wr_ne, mp_wr_ne, rd_wrm_ne, own_wrm_ne, mp_wrm_ne, rd_new_eq, own_new_eq, mp_newm_eq, on, o04, rd_wr_same on]
        exact fin
      · simp (disch := (first | omega | (simp only [size_new, size_newm, size_wr, size_wrm] <;> omega) | fail)) only [go_sem, Nat.reduceBEq, Nat.reduceAdd, Nat.reduceMul, Nat.reduceLeDiff, ↓reduceIte, rd_new_lt, own_new_lt, mp_new_lt, rd_newm_lt, own_newm_lt, mp_newm_lt, rd_wr_ne, own_wr_ne, mp_wr_ne, rd_wrm_ne, own_wrm_ne, mp_wrm_ne, rd_new_eq, own_new_eq, mp_newm_eq, o0]
        refine Sl.append ((Sl.lit_at (H := H0) (T := 4) (size := 1) (n := 0) (xs := []) rfl rfl).ext (f1 _ [.bool true]) (fun _ _ h => h)) (h1.fresh (f0.trans ((f1 H0 []).trans (f1 _ [.bool true])))) rfl (allOne_bools _) (by omega) ?_
        intro v12 H2 fp12 s12 e12 hfp12
        rw [Nat.zero_add, List.nil_append] at s12
        have fb12 : ∀ b, fp12 = some b → H0.size ≤ b ∧ b ≠ H0.size + 1 := fun b hb => by
          rcases hfp12 with h | ⟨x, h, h5, _⟩
          · rw [h] at hb; injection hb with hb; omega
          · rw [h] at hb; injection hb with hb; simp only [size_new] at h5; omega
        have f2 : Fresh H0 H2 := Fresh.then ((f1 H0 []).trans (f1 _ [.bool true])) e12 (fun z hz => by injection hz with hz; omega)
        have o02 := f2.own o0 (fun h => h)
        have z2 := f2.size
        simp (disch := (first | omega | (simp only [size_new, size_newm, size_wr, size_wrm] <;> omega) | fail)) only [go_sem, Nat.reduceBEq, Nat.reduceAdd, Nat.reduceMul, Nat.reduceLeDiff, ↓reduceIte, rd_new_lt, own_new_lt, mp_new_lt, rd_newm_lt, own_newm_lt, mp_newm_lt, rd_wr_ne, own_wr_ne, mp_wr_ne, rd_wrm_ne, own_wrm_ne, mp_wrm_ne, rd_new_eq, own_new_eq, mp_newm_eq, o02]
        have l13 : RdS H2 1 (.slice (some ⟨H0.size + 1, 0, none⟩) 1 1) 1 [.bool true] := RdS.keep (Sl.lit_at (H := H0.new 4 []) (T := 4) (size := 1) (n := 1) (xs := [.bool true]) rfl (by simp only [size_new])).rd e12 (fun x hx e => by injection hx with hx; subst hx; injection e with e; simp only at e; omega)
        refine Sl.append s12 l13 rfl (allOne_bools [true]) (by omega) ?_
        intro v14 H4 fp14 s14 e14 hfp14
        have f4 : Fresh H0 H4 := Fresh.then (f2) e14 (fun z hz => (fb12 z hz).1)
        have fb14 : ∀ b, fp14 = some b → H0.size ≤ b := fun b hb => by
          rcases hfp14 with h | ⟨x, h, h5, _⟩
          · exact (fb12 b (h ▸ hb)).1
          · rw [h] at hb; injection hb with hb; have := (f2).size; omega
        obtain ⟨a2', c2, rfl, on, fin⟩ := fin H4 v14 fp14 f4 s14 fb14
        have o04 := f4.own o0 (fun h => h)
        simp (disch := (first | omega | (simp only [size_new, size_newm, size_wr, size_wrm] <;> omega) | fail)) only [go_sem, Nat.reduceBEq, Nat.reduceAdd, Nat.reduceMul, Nat.reduceLeDiff, ↓reduceIte, rd_new_lt, own_new_lt, mp_new_lt, rd_newm_lt, own_newm_lt, mp_newm_lt, rd_wr_ne, own_wr_ne, mp_wr_ne, rd_wrm_ne, own_wrm_ne, mp_wrm_ne, rd_new_eq, own_new_eq, mp_newm_eq, on, o04, rd_wr_same on]
        exact fin
    · simp (disch := (first | omega | (simp only [size_new, size_newm, size_wr, size_wrm] <;> omega) | fail)) only [go_sem, Nat.reduceBEq, Nat.reduceAdd, Nat.reduceMul, Nat.reduceLeDiff, ↓reduceIte, rd_new_lt, own_new_lt, mp_new_lt, rd_newm_lt, own_newm_lt, mp_newm_lt, rd_wr_ne, own_wr_ne, mp_wr_ne, rd_wrm_ne, own_wrm_ne, mp_wrm_ne, rd_new_eq, own_new_eq, mp_newm_eq, o0]
      refine Sl.append (Sl.lit_at (size := 1) (n := 0) (xs := []) rfl (by simp only [size_new])) (h1.fresh (f0.trans ((f1 H0 [.bool true]).trans (f1 _ [])))) rfl (allOne_bools _) (by omega) ?_
      intro v12 H2 fp12 s12 e12 hfp12
      rw [Nat.zero_add, List.nil_append] at s12
      have fb12 : ∀ b, fp12 = some b → H0.size ≤ b ∧ b ≠ H0.size := fun b hb => by
        rcases hfp12 with h | ⟨x, h, h5, _⟩
        · rw [h] at hb; injection hb with hb; omega
        · rw [h] at hb; injection hb with hb; simp only [size_new] at h5; omega
      have f2 : Fresh H0 H2 := Fresh.then ((f1 H0 [.bool true]).trans (f1 _ [])) e12 (fun z hz => by injection hz with hz; omega)
      have o02 := f2.own o0 (fun h => h)
      have z2 := f2.size
      simp (disch := (first | omega | (simp only [size_new, size_newm, size_wr, size_wrm] <;> omega) | fail)) only [go_sem, Nat.reduceBEq, Nat.reduceAdd, Nat.reduceMul, Nat.reduceLeDiff, ↓reduceIte, rd_new_lt, own_new_lt, mp_new_lt, rd_newm_lt, own_newm_lt, mp_newm_lt, rd_wr_ne, own_wr_ne, mp_wr_ne, rd_wrm_ne, own_wrm_ne, mp_wrm_ne, rd_new_eq, own_new_eq, mp_newm_eq, o02]
      have l13 : RdS H2 1 (.slice (some ⟨H0.size, 0, none⟩) 1 1) 1 [.bool true] := RdS.keep ((Sl.lit_at (H := H0) (T := 4) (size := 1) (n := 1) (xs := [.bool true]) rfl rfl).rd.fresh (f1 _ [])) e12 (fun x hx e => by injection hx with hx; subst hx; injection e with e; simp only at e; omega)
      refine Sl.append s12 l13 rfl (allOne_bools [true]) (by omega) ?_
      intro v14 H4 fp14 s14 e14 hfp14
      have f4 : Fresh H0 H4 := Fresh.then (f2) e14 (fun z hz => (fb12 z hz).1)
      have fb14 : ∀ b, fp14 = some b → H0.size ≤ b := fun b hb => by
        rcases hfp14 with h | ⟨x, h, h5, _⟩
        · exact (fb12 b (h ▸ hb)).1
        · rw [h] at hb; injection hb with hb; have := (f2).size; omega
      obtain ⟨a2', c2, rfl, on, fin⟩ := fin H4 v14 fp14 f4 s14 fb14
      have o04 := f4.own o0 (fun h => h)
      simp (disch := (first | omega | (simp only [size_new, size_newm, size_wr, size_wrm] <;> omega) | fail)) only [go_sem, Nat.reduceBEq, Nat.reduceAdd, Nat.reduceMul, Nat.reduceLeDiff, ↓reduceIte, rd_new_lt, own_new_lt, mp_new_lt, rd_newm_lt, own_newm_lt, mp_newm_lt, rd_wr_ne, own_wr_ne, mp_wr_ne, rd_wrm_ne, own_wrm_ne, mp_wrm_ne, rd_new_eq, own_new_eq, mp_newm_eq, on, o04, rd_wr_same on]
      exact fin

theorem set_same {α : Type} (l : List α) (i : Nat) (x : α) (h : l[i]? = some x) : l.set i x = l := by
  apply List.ext_getElem?
  intro j
  by_cases hj : i = j
  · subst hj
    rw [List.getElem?_set_self (List.getElem?_eq_some_iff.1 h).1, h]
  · rw [List.getElem?_set_ne hj]

theorem set_map_take {α : Type} (f : α → α) (l : List α) (i : Nat) (x : α) (hx : l[i]? = some x) : ((l.take i).map f ++ l.drop i).set i (f x) = (l.take (i + 1)).map f ++ l.drop (i + 1) := by
  have hi := (List.getElem?_eq_some_iff.1 hx).1
  have hl : ((l.take i).map f).length = i := by simp; omega
  apply List.ext_getElem?
  intro j
  rw [List.getElem?_set]
  by_cases hj : i = j
  · subst hj
    have hlen : i < ((l.take i).map f ++ l.drop i).length := by simp; omega
    rw [if_pos rfl, if_pos hlen, List.getElem?_append_left (by simp; omega), List.getElem?_map, List.getElem?_take_of_lt (by omega), hx]
    rfl
  · rw [if_neg hj]
    rcases Nat.lt_or_ge j i with h | h
    · rw [List.getElem?_append_left (by omega), List.getElem?_append_left (by simp; omega), List.getElem?_map, List.getElem?_map, List.getElem?_take_of_lt h, List.getElem?_take_of_lt (by omega)]
    · rw [List.getElem?_append_right (by omega), List.getElem?_append_right (by simp; omega), hl, List.getElem?_drop, List.getElem?_drop]
      congr 1
      simp
      omega

theorem ref05_Join_spec {H : Hp} {v : Value} {w : Nw} {A : Nat → Prop} (h : NestR H v w A) (hA : ∀ b, A b → b < H.size) (x y : Int) :
    CallH Try.prog n_ref05_Join [v, i64 x, i64 y] H fun r H' => Post (Fresh H H' ∧ ((¬ (w.has x ∧ w.has y ∧ x ≠ y) ∧ ∃ v', r = .tuple [v', .bool false].toArray ∧ NestR H' v' w (Grow A H H')) ∨
      ((w.has x ∧ w.has y ∧ x ≠ y) ∧ ∃ v', r = .tuple [v', .bool true].toArray ∧ NestR H' v' (w.join x y) (Grow A H H')))) := by
  have h' := h
  obtain ⟨ha, hc, ca, cc, rfl, h1, h2, h3, h4, a1, a2⟩ := h
  refine c_ref05_Join ⟨rfl, ?_⟩
  simp (disch := (first | omega | (simp only [size_new, size_newm, size_wr, size_wrm] <;> omega) | fail)) only [go_sem, Nat.reduceBEq, Nat.reduceAdd, Nat.reduceMul, Nat.reduceLeDiff, ↓reduceIte, rd_new_lt, own_new_lt, mp_new_lt, rd_newm_lt, own_newm_lt, mp_newm_lt, rd_wr_ne, own_wr_ne, mp_wr_ne, rd_wrm_ne, own_wrm_ne, mp_wrm_ne, rd_new_eq, own_new_eq, mp_newm_eq, s_ref05_Join]
  have f0 : Fresh H ((H.new 108 [.slice ha w.hs.length hc, .slice ca w.cs.length cc]).new 108 [.slice none 0 0, .slice none 0 0]) := (((Ext.refl _ _).new _ _).new _ _)
  have o0 : ((H.new 108 [.slice ha w.hs.length hc, .slice ca w.cs.length cc]).new 108 [.slice none 0 0, .slice none 0 0]).own (H.size) = some [.slice ha w.hs.length hc, .slice ca w.cs.length cc] := by rw [own_new_lt (by simp only [size_new]; omega), own_new]
  have o1 : ((H.new 108 [.slice ha w.hs.length hc, .slice ca w.cs.length cc]).new 108 [.slice none 0 0, .slice none 0 0]).own (H.size + 1) = some [.slice none 0 0, .slice none 0 0] := by rw [own_new_eq (by simp only [size_new])]
  have hz : ((H.new 108 [.slice ha w.hs.length hc, .slice ca w.cs.length cc]).new 108 [.slice none 0 0, .slice none 0 0]).size = H.size + 2 := by simp only [size_new]
  generalize ((H.new 108 [.slice ha w.hs.length hc, .slice ca w.cs.length cc]).new 108 [.slice none 0 0, .slice none 0 0]) = H0 at *
  have fail : ∀ H1, Fresh H0 H1 → ¬ (w.has x ∧ w.has y ∧ x ≠ y) → Post (Fresh H (H1.wr (H.size + 1) [.slice ha w.hs.length hc, .slice ca w.cs.length cc]) ∧ ((¬ (w.has x ∧ w.has y ∧ x ≠ y) ∧ ∃ v', Value.tuple [.agg [.slice ha w.hs.length hc, .slice ca w.cs.length cc].toArray, .bool false].toArray = .tuple [v', .bool false].toArray ∧ NestR (H1.wr (H.size + 1) [.slice ha w.hs.length hc, .slice ca w.cs.length cc]) v' w (Grow A H (H1.wr (H.size + 1) [.slice ha w.hs.length hc, .slice ca w.cs.length cc]))) ∨
      ((w.has x ∧ w.has y ∧ x ≠ y) ∧ ∃ v', Value.tuple [.agg [.slice ha w.hs.length hc, .slice ca w.cs.length cc].toArray, .bool false].toArray = .tuple [v', .bool true].toArray ∧ NestR (H1.wr (H.size + 1) [.slice ha w.hs.length hc, .slice ca w.cs.length cc]) v' (w.join x y) (Grow A H (H1.wr (H.size + 1) [.slice ha w.hs.length hc, .slice ca w.cs.length cc]))))) := by
    intro H1 f1 hn
    have e3 : Ext (fun z => z = H.size + 1) H1 (H1.wr (H.size + 1) [.slice ha w.hs.length hc, .slice ca w.cs.length cc]) := (Ext.refl (fun z => z = H.size + 1) _).wr (fun _ => rfl) _
    have f3 := Fresh.then (f0.trans f1) e3 (fun z hz => by omega)
    exact ⟨f3, .inl ⟨hn, _, rfl, (h'.fresh f3).mono fun b hb => .inl hb⟩⟩
  refine (ref05_Has_spec (h'.fresh f0) x).mono ?_
  rintro _ H1 ⟨rfl, f1⟩
  have p0 := f1.own o0 (fun h => h)
  have p1 := f1.own o1 (fun h => h)
  simp (disch := (first | omega | (simp only [size_new, size_newm, size_wr, size_wrm] <;> omega) | fail)) only [go_sem, Nat.reduceBEq, Nat.reduceAdd, Nat.reduceMul, Nat.reduceLeDiff, ↓reduceIte, rd_new_lt, own_new_lt, mp_new_lt, rd_newm_lt, own_newm_lt, mp_newm_lt, rd_wr_ne, own_wr_ne, mp_wr_ne, rd_wrm_ne, own_wrm_ne, mp_wrm_ne, rd_new_eq, own_new_eq, mp_newm_eq]
  refine Both.dec (fun hx => ?_) (fun hx => ?_) <;> simp (disch := (first | omega | (simp only [size_new, size_newm, size_wr, size_wrm] <;> omega) | fail)) only [go_sem, Nat.reduceBEq, Nat.reduceAdd, Nat.reduceMul, Nat.reduceLeDiff, ↓reduceIte, rd_new_lt, own_new_lt, mp_new_lt, rd_newm_lt, own_newm_lt, mp_newm_lt, rd_wr_ne, own_wr_ne, mp_wr_ne, rd_wrm_ne, own_wrm_ne, mp_wrm_ne, rd_new_eq, own_new_eq, mp_newm_eq, rd_of_own p0]
  · refine (ref05_Has_spec ((h'.fresh f0).fresh f1) y).mono ?_
    rintro _ H2 ⟨rfl, f2⟩
    have q0 := f2.own p0 (fun h => h)
    have q1 := f2.own p1 (fun h => h)
    have z2 := f2.size
    have z1 := f1.size
    simp (disch := (first | omega | (simp only [size_new, size_newm, size_wr, size_wrm] <;> omega) | fail)) only [go_sem, Nat.reduceBEq, Nat.reduceAdd, Nat.reduceMul, Nat.reduceLeDiff, ↓reduceIte, rd_new_lt, own_new_lt, mp_new_lt, rd_newm_lt, own_newm_lt, mp_newm_lt, rd_wr_ne, own_wr_ne, mp_wr_ne, rd_wrm_ne, own_wrm_ne, mp_wrm_ne, rd_new_eq, own_new_eq, mp_newm_eq]
    refine Both.dec (fun hy => ?_) (fun hy => ?_) <;> simp (disch := (first | omega | (simp only [size_new, size_newm, size_wr, size_wrm] <;> omega) | fail)) only [go_sem, Nat.reduceBEq, Nat.reduceAdd, Nat.reduceMul, Nat.reduceLeDiff, ↓reduceIte, rd_new_lt, own_new_lt, mp_new_lt, rd_newm_lt, own_newm_lt, mp_newm_lt, rd_wr_ne, own_wr_ne, mp_wr_ne, rd_wrm_ne, own_wrm_ne, mp_wrm_ne, rd_new_eq, own_new_eq, mp_newm_eq]
    · refine Both.dec (fun hxy => ?_) (fun hxy => ?_) <;> simp (disch := (first | omega | (simp only [size_new, size_newm, size_wr, size_wrm] <;> omega) | fail)) only [go_sem, Nat.reduceBEq, Nat.reduceAdd, Nat.reduceMul, Nat.reduceLeDiff, ↓reduceIte, rd_new_lt, own_new_lt, mp_new_lt, rd_newm_lt, own_newm_lt, mp_newm_lt, rd_wr_ne, own_wr_ne, mp_wr_ne, rd_wrm_ne, own_wrm_ne, mp_wrm_ne, rd_new_eq, own_new_eq, mp_newm_eq, rd_of_own q0]
      · simp (disch := (first | omega | (simp only [size_new, size_newm, size_wr, size_wrm] <;> omega) | fail)) only [go_sem, Nat.reduceBEq, Nat.reduceAdd, Nat.reduceMul, Nat.reduceLeDiff, ↓reduceIte, rd_new_lt, own_new_lt, mp_new_lt, rd_newm_lt, own_newm_lt, mp_newm_lt, rd_wr_ne, own_wr_ne, mp_wr_ne, rd_wrm_ne, own_wrm_ne, mp_wrm_ne, rd_new_eq, own_new_eq, mp_newm_eq, q1, rd_wr_same q1]
        exact fail H2 (f1.trans f2) (fun hc => hc.2.2 hxy)
      · have hyl := (List.getElem?_eq_some_iff.1 hy.2).1
        have f02 := (f0.trans f1).trans f2
        have n3 : Fresh H2 (H2.new 4 []) := (Ext.refl _ _).new _ _
        refine Sl.append (Sl.lit_at (size := 1) (n := 0) (xs := []) rfl rfl) (h1.fresh (f02.trans n3)) rfl (allOne_bools _) (by omega) ?_
        intro hv H3 hb s3 e3 hhb
        rw [Nat.zero_add, List.nil_append] at s3
        obtain ⟨hb, rfl⟩ : ∃ b, hb = some b := by
          rcases hhb with h | ⟨z, h, _⟩
          · exact ⟨_, h⟩
          · exact ⟨z, h⟩
        have hb3 : H2.size ≤ hb := by
          rcases hhb with h | ⟨z, h, h5, _⟩
          · injection h with h; omega
          · injection h with h; rw [size_new] at h5; omega
        have f23 : Fresh H2 H3 := Fresh.then n3 e3 (fun z hz => by injection hz with hz; omega)
        have r0 := f23.own q0 (fun h => h)
        have r1 := f23.own q1 (fun h => h)
        have s3' := s3
        obtain ⟨_, l3, c3, rfl, t1, t2, t3, t4⟩ := s3'
        simp (disch := (first | omega | (simp only [size_new, size_newm, size_wr, size_wrm] <;> omega) | fail)) only [go_sem, Nat.reduceBEq, Nat.reduceAdd, Nat.reduceMul, Nat.reduceLeDiff, ↓reduceIte, rd_new_lt, own_new_lt, mp_new_lt, rd_newm_lt, own_newm_lt, mp_newm_lt, rd_wr_ne, own_wr_ne, mp_wr_ne, rd_wrm_ne, own_wrm_ne, mp_wrm_ne, rd_new_eq, own_new_eq, mp_newm_eq]
        refine ⟨by have := hy.1; omega, ?_⟩
        simp (disch := (first | omega | (simp only [size_new, size_newm, size_wr, size_wrm] <;> omega) | fail)) only [go_sem, Nat.reduceBEq, Nat.reduceAdd, Nat.reduceMul, Nat.reduceLeDiff, ↓reduceIte, rd_new_lt, own_new_lt, mp_new_lt, rd_newm_lt, own_newm_lt, mp_newm_lt, rd_wr_ne, own_wr_ne, mp_wr_ne, rd_wrm_ne, own_wrm_ne, mp_wrm_ne, rd_new_eq, own_new_eq, mp_newm_eq, t1]
        refine ⟨by omega, ?_⟩
        rw [Nat.mul_one, show splice l3 y.toNat (vcells (Value.bool false)) = l3.set y.toNat (.bool false) from rfl]
        have s4 := s3.set1 t1 y.toNat (.bool false)
        have e4 : Ext (fun z => z = hb) H3 (H3.wr hb (l3.set y.toNat (.bool false))) := (Ext.refl (fun z => z = hb) _).wr (fun _ => rfl) _
        have f24 : Fresh H2 (H3.wr hb (l3.set y.toNat (.bool false))) := Fresh.then f23 e4 (fun z hz => by omega)
        have u0 := e4.own r0 (by omega)
        have u1 := e4.own r1 (by omega)
        have z4 := f24.size
        have hbl := Sl.lt s4
        rw [show (w.hs.map Value.bool).set y.toNat (.bool false) = (w.hs.set y.toNat false).map Value.bool by rw [List.map_set]] at s4
        generalize H3.wr hb (l3.set y.toNat (.bool false)) = H4 at *
        simp (disch := (first | omega | (simp only [size_new, size_newm, size_wr, size_wrm] <;> omega) | fail)) only [go_sem, Nat.reduceBEq, Nat.reduceAdd, Nat.reduceMul, Nat.reduceLeDiff, ↓reduceIte, rd_new_lt, own_new_lt, mp_new_lt, rd_newm_lt, own_newm_lt, mp_newm_lt, rd_wr_ne, own_wr_ne, mp_wr_ne, rd_wrm_ne, own_wrm_ne, mp_wrm_ne, rd_new_eq, own_new_eq, mp_newm_eq, rd_of_own u0]
        have n5 : Fresh H4 (H4.new 147 []) := (Ext.refl _ _).new _ _
        refine Sl.append (Sl.lit_at (size := 3) (n := 0) (xs := []) rfl rfl) (h2.fresh ((f02.trans f24).trans n5)) rfl (allOne_flatC _) (by omega) ?_
        intro lv H5 lb s5 e5 hlb
        rw [Nat.zero_add, List.nil_append] at s5
        obtain ⟨lb, rfl⟩ : ∃ b, lb = some b := by
          rcases hlb with h | ⟨z, h, _⟩
          · exact ⟨_, h⟩
          · exact ⟨z, h⟩
        have lb5 : H4.size ≤ lb := by
          rcases hlb with h | ⟨z, h, h5, _⟩
          · injection h with h; omega
          · injection h with h; rw [size_new] at h5; omega
        have f45 : Fresh H4 H5 := Fresh.then n5 e5 (fun z hz => by injection hz with hz; omega)
        have w1 := f45.own u1 (fun h => h)
        have s45 := s4.ext f45 (fun _ _ h => h)
        have s5' := s5
        obtain ⟨_, l5, c5, rfl, _⟩ := s5'
        simp (disch := (first | omega | (simp only [size_new, size_newm, size_wr, size_wrm] <;> omega) | fail)) only [go_sem, Nat.reduceBEq, Nat.reduceAdd, Nat.reduceMul, Nat.reduceLeDiff, ↓reduceIte, rd_new_lt, own_new_lt, mp_new_lt, rd_newm_lt, own_newm_lt, mp_newm_lt, rd_wr_ne, own_wr_ne, mp_wr_ne, rd_wrm_ne, own_wrm_ne, mp_wrm_ne, rd_new_eq, own_new_eq, mp_newm_eq]
        have fl := flatC_length w.cs
        let f : Ce → Ce := fun c => if c.1 = y then (x, c.2) else c
        refine LoopV.intro (fun m env H6 => ∃ i : Nat, env = [(1, i64 x), (2, i64 y), (6, ptr (H.size + 1)), (8, .slice (some ⟨hb, 0, none⟩) w.hs.length c3), (9, .slice (some ⟨lb, 0, none⟩) w.cs.length c5), (39, .slice (some ⟨lb, 0, none⟩) w.cs.length c5), (40, i64 w.cs.length), (41, i64 i)] ∧ m = w.cs.length - i ∧ i ≤ w.cs.length ∧
          Sl H6 3 (.slice (some ⟨lb, 0, none⟩) w.cs.length c5) w.cs.length (flatC ((w.cs.take i).map f ++ w.cs.drop i)) (some lb) ∧ Ext (fun z => z = lb) H5 H6) w.cs.length
          ⟨0, rfl, by omega, by omega, by simpa using s5, Ext.refl _ _⟩ ?_
        rintro m env H6 ⟨i, rfl, rfl, hi, s6, e6⟩
        have z5 := f45.size
        have z6 := e6.size
        simp (disch := (first | omega | (simp only [size_new, size_newm, size_wr, size_wrm] <;> omega) | fail)) only [go_sem, Nat.reduceBEq, Nat.reduceAdd, Nat.reduceMul, Nat.reduceLeDiff, ↓reduceIte, rd_new_lt, own_new_lt, mp_new_lt, rd_newm_lt, own_newm_lt, mp_newm_lt, rd_wr_ne, own_wr_ne, mp_wr_ne, rd_wrm_ne, own_wrm_ne, mp_wrm_ne, rd_new_eq, own_new_eq, mp_newm_eq]
        refine Both.dec (fun hin => ?_) (fun hin => ?_) <;> simp (disch := (first | omega | (simp only [size_new, size_newm, size_wr, size_wrm] <;> omega) | fail)) only [go_sem, Nat.reduceBEq, Nat.reduceAdd, Nat.reduceMul, Nat.reduceLeDiff, ↓reduceIte, rd_new_lt, own_new_lt, mp_new_lt, rd_newm_lt, own_newm_lt, mp_newm_lt, rd_wr_ne, own_wr_ne, mp_wr_ne, rd_wrm_ne, own_wrm_ne, mp_wrm_ne, rd_new_eq, own_new_eq, mp_newm_eq]
        · obtain ⟨c0, hc0⟩ : ∃ c0, w.cs[i]? = some c0 := ⟨_, List.getElem?_eq_getElem (by omega)⟩
          have hmid : ((w.cs.take i).map f ++ w.cs.drop i)[i]? = some c0 := by
            rw [List.getElem?_append_right (by simp; omega)]
            simp only [List.length_map, List.length_take, List.getElem?_drop]
            rw [show i + (i - min i w.cs.length) = i by omega]
            exact hc0
          obtain ⟨bb, o, l, ee, c1, c2, c3', c4, c5', c6, c7, c8⟩ := RdS.cell s6.rd hmid
          injection ee with ee
          injection ee with e1 e2 _
          subst e1; subst e2
          have s6' := s6
          obtain ⟨_, l6, c6', ev, v1, v2, v3, v4⟩ := s6'
          injection ev with _ _ ev
          subst ev
          have hll : l = l6 := by rw [rd_of_own v1] at c1; injection c1 with c1; exact c1.symm
          subst hll
          simp only [Nat.zero_add] at c3' c4 c5' c6 c7 c8
          refine ⟨by omega, ?_⟩
          simp (disch := (first | omega | (simp only [size_new, size_newm, size_wr, size_wrm] <;> omega) | fail)) only [go_sem, Nat.reduceBEq, Nat.reduceAdd, Nat.reduceMul, Nat.reduceLeDiff, ↓reduceIte, rd_new_lt, own_new_lt, mp_new_lt, rd_newm_lt, own_newm_lt, mp_newm_lt, rd_wr_ne, own_wr_ne, mp_wr_ne, rd_wrm_ne, own_wrm_ne, mp_wrm_ne, rd_new_eq, own_new_eq, mp_newm_eq, c1, Int.toNat_natCast]
          refine ⟨by omega, ?_⟩
          simp (disch := (first | omega | (simp only [size_new, size_newm, size_wr, size_wrm] <;> omega) | fail)) only [go_sem, Nat.reduceBEq, Nat.reduceAdd, Nat.reduceMul, Nat.reduceLeDiff, ↓reduceIte, rd_new_lt, own_new_lt, mp_new_lt, rd_newm_lt, own_newm_lt, mp_newm_lt, rd_wr_ne, own_wr_ne, mp_wr_ne, rd_wrm_ne, own_wrm_ne, mp_wrm_ne, rd_new_eq, own_new_eq, mp_newm_eq, c7]
          have n7 : Fresh H6 ((H6.new 147 [.int .i64 0, .int .i64 0, .int .u64 0]).wr H6.size [i64 c0.1, i64 c0.2.1, u64 c0.2.2]) := ((Ext.refl _ _).new _ _).wr (fun h => absurd h (Nat.lt_irrefl _)) _
          have bx : ((H6.new 147 [.int .i64 0, .int .i64 0, .int .u64 0]).wr H6.size [i64 c0.1, i64 c0.2.1, u64 c0.2.2]).own H6.size = some [i64 c0.1, i64 c0.2.1, u64 c0.2.2] := own_wr_same (own_new _ _ _)
          have s7 := s6.ext n7 (fun _ _ h => h)
          have v7 := n7.own v1 (fun h => h)
          have e67 : Ext (fun z => z = lb) H5 ((H6.new 147 [.int .i64 0, .int .i64 0, .int .u64 0]).wr H6.size [i64 c0.1, i64 c0.2.1, u64 c0.2.2]) := e6.trans (n7.mono fun _ _ h => h.elim)
          have hlb6 := own_lt v1
          simp (disch := (first | omega | (simp only [size_new, size_newm, size_wr, size_wrm] <;> omega) | fail)) only [go_sem, Nat.reduceBEq, Nat.reduceAdd, Nat.reduceMul, Nat.reduceLeDiff, ↓reduceIte, rd_new_lt, own_new_lt, mp_new_lt, rd_newm_lt, own_newm_lt, mp_newm_lt, rd_wr_ne, own_wr_ne, mp_wr_ne, rd_wrm_ne, own_wrm_ne, mp_wrm_ne, rd_new_eq, own_new_eq, mp_newm_eq, rd_of_own bx]
          generalize (H6.new 147 [.int .i64 0, .int .i64 0, .int .u64 0]).wr H6.size [i64 c0.1, i64 c0.2.1, u64 c0.2.2] = H7 at *
          refine Both.dec (fun he => ?_) (fun he => ?_) <;> simp (disch := (first | omega | (simp only [size_new, size_newm, size_wr, size_wrm] <;> omega) | fail)) only [go_sem, Nat.reduceBEq, Nat.reduceAdd, Nat.reduceMul, Nat.reduceLeDiff, ↓reduceIte, rd_new_lt, own_new_lt, mp_new_lt, rd_newm_lt, own_newm_lt, mp_newm_lt, rd_wr_ne, own_wr_ne, mp_wr_ne, rd_wrm_ne, own_wrm_ne, mp_wrm_ne, rd_new_eq, own_new_eq, mp_newm_eq, rd_of_own bx]
          · refine ⟨by omega, ?_⟩
            simp (disch := (first | omega | (simp only [size_new, size_newm, size_wr, size_wrm] <;> omega) | fail)) only [go_sem, Nat.reduceBEq, Nat.reduceAdd, Nat.reduceMul, Nat.reduceLeDiff, ↓reduceIte, rd_new_lt, own_new_lt, mp_new_lt, rd_newm_lt, own_newm_lt, mp_newm_lt, rd_wr_ne, own_wr_ne, mp_wr_ne, rd_wrm_ne, own_wrm_ne, mp_wrm_ne, rd_new_eq, own_new_eq, mp_newm_eq, v7, Int.toNat_natCast]
            refine ⟨by omega, ?_⟩
            try rw [Int.toNat_natCast]
            have s8 := Sl.write s7 (off := i * 3) (vs := [i64 x, i64 c0.2.1, u64 c0.2.2]) v7 (by simp; omega)
            rw [show [i64 x, i64 c0.2.1, u64 c0.2.2] = [i64 (f c0).1, i64 (f c0).2.1, u64 (f c0).2.2] by simp only [f, if_pos he], flatC_set _ _ _ (by simp; omega), set_map_take f w.cs i c0 hc0] at s8
            rw [show splice l (i * 3) (vcells (Value.agg #[i64 x, i64 c0.2.1, u64 c0.2.2])) = splice l (i * 3) [i64 (f c0).1, i64 (f c0).2.1, u64 (f c0).2.2] by simp only [f, if_pos he]; rfl]
            have e8 : Ext (fun z => z = lb) H5 (H7.wr lb (splice l (i * 3) [i64 (f c0).1, i64 (f c0).2.1, u64 (f c0).2.2])) := e67.wr (fun _ => rfl) _
            generalize H7.wr lb (splice l (i * 3) [i64 (f c0).1, i64 (f c0).2.1, u64 (f c0).2.2]) = H8 at *
            simp (disch := (first | omega | (simp only [size_new, size_newm, size_wr, size_wrm] <;> omega) | fail)) only [go_sem, Nat.reduceBEq, Nat.reduceAdd, Nat.reduceMul, Nat.reduceLeDiff, ↓reduceIte, rd_new_lt, own_new_lt, mp_new_lt, rd_newm_lt, own_newm_lt, mp_newm_lt, rd_wr_ne, own_wr_ne, mp_wr_ne, rd_wrm_ne, own_wrm_ne, mp_wrm_ne, rd_new_eq, own_new_eq, mp_newm_eq]
            rw [wrap64 (n := (i : Int) + 1) (by omega) (by omega)]
            exact ⟨w.cs.length - (i + 1), by omega, i + 1, rfl, rfl, by omega, s8, e8⟩
          · rw [wrap64 (n := (i : Int) + 1) (by omega) (by omega)]
            have hsame : (w.cs.take (i + 1)).map f ++ w.cs.drop (i + 1) = (w.cs.take i).map f ++ w.cs.drop i := by
              rw [← set_map_take f w.cs i c0 hc0]
              have : f c0 = c0 := by simp only [f, if_neg he]
              rw [this]
              exact set_same _ _ _ hmid
            exact ⟨w.cs.length - (i + 1), by omega, i + 1, rfl, rfl, by omega, by rw [hsame]; exact s7, e67⟩
        · have hi2 : i = w.cs.length := by omega
          subst hi2
          rw [List.take_length, List.drop_length, List.append_nil] at s6
          have x1 := e6.own w1 (by omega)
          simp (disch := (first | omega | (simp only [size_new, size_newm, size_wr, size_wrm] <;> omega) | fail)) only [go_sem, Nat.reduceBEq, Nat.reduceAdd, Nat.reduceMul, Nat.reduceLeDiff, ↓reduceIte, rd_new_lt, own_new_lt, mp_new_lt, rd_newm_lt, own_newm_lt, mp_newm_lt, rd_wr_ne, own_wr_ne, mp_wr_ne, rd_wrm_ne, own_wrm_ne, mp_wrm_ne, rd_new_eq, own_new_eq, mp_newm_eq, x1, rd_wr_same x1]
          have e9 : Ext (fun z => z = H.size + 1) H6 (H6.wr (H.size + 1) [.slice (some ⟨hb, 0, none⟩) w.hs.length c3, .slice (some ⟨lb, 0, none⟩) w.cs.length c5]) := (Ext.refl (fun z => z = H.size + 1) _).wr (fun _ => rfl) _
          have f6 := Fresh.then (((f02.trans f24).trans f45)) e6 (fun z hz => by omega)
          have f9 := Fresh.then f6 e9 (fun z hz => by omega)
          have hlb6 := Sl.lt s6
          refine ⟨f9, .inr ⟨⟨hx, hy, hxy⟩, _, rfl, some ⟨hb, 0, none⟩, c3, some ⟨lb, 0, none⟩, c5, by simp [Nw.join], ?_, ?_, by simpa [Nw.join] using h3, by simpa [Nw.join] using h4, fun z hz => .inr ?_, fun z hz => .inr ?_⟩⟩
          · have := ((s45.ext e6 (fun b hb e => by injection hb with hb; omega)).ext e9 (fun b hb e => by injection hb with hb; omega)).rd
            simpa [Nw.join] using this
          · have := (s6.ext e9 (fun b hb e => by injection hb with hb; omega)).rd
            simpa [Nw.join] using this
          · injection hz with hz; subst hz; rw [size_wr]; exact ⟨by simp only; omega, by simp only; omega⟩
          · injection hz with hz; subst hz; rw [size_wr]; exact ⟨by simp only; omega, by simp only; omega⟩
    · simp (disch := (first | omega | (simp only [size_new, size_newm, size_wr, size_wrm] <;> omega) | fail)) only [go_sem, Nat.reduceBEq, Nat.reduceAdd, Nat.reduceMul, Nat.reduceLeDiff, ↓reduceIte, rd_new_lt, own_new_lt, mp_new_lt, rd_newm_lt, own_newm_lt, mp_newm_lt, rd_wr_ne, own_wr_ne, mp_wr_ne, rd_wrm_ne, own_wrm_ne, mp_wrm_ne, rd_new_eq, own_new_eq, mp_newm_eq, rd_of_own q0, q1, rd_wr_same q1]
      exact fail H2 (f1.trans f2) (fun hc => hy hc.2.1)
  · simp (disch := (first | omega | (simp only [size_new, size_newm, size_wr, size_wrm] <;> omega) | fail)) only [go_sem, Nat.reduceBEq, Nat.reduceAdd, Nat.reduceMul, Nat.reduceLeDiff, ↓reduceIte, rd_new_lt, own_new_lt, mp_new_lt, rd_newm_lt, own_newm_lt, mp_newm_lt, rd_wr_ne, own_wr_ne, mp_wr_ne, rd_wrm_ne, own_wrm_ne, mp_wrm_ne, rd_new_eq, own_new_eq, mp_newm_eq, rd_of_own p0, p1, rd_wr_same p1]
    exact fail H1 f1 (fun hc => hx hc.1)

end Go.Proofs.Yteicchpglnamcaa
