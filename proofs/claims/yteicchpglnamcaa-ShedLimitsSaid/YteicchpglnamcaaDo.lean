/-
  An act done to whatever has a nest's calls, and to the document's nest: the answer is the same.
-/
import Derived.Test.YteicchpglnamcaaNestS
set_option linter.unusedVariables false
set_option linter.unusedSimpArgs false
namespace Go.Proofs.Yteicchpglnamcaa
open Go Go.Vc

/-- The heap to which an act is done. -/
def Nw.actHeap (w : Nw) (kind h x : Int) : Int := if (kind = 4 ∨ kind = 5) ∧ InC w.cs x then (w.cs.getD x.toNat (0, 0, 0)).1 else h

/-- How many steps an act may take. -/
def doCost (lim : Int → Int) (rows : Bool) (w : Nw) (kind h x : Int) : Int :=
  if kind = 6 then lim (w.len h + w.len x + 1) * (bif rows then min (w.len h) (w.len x) + 1 else 1) else lim (w.len (w.actHeap kind h x) + 1)

theorem doCost_nonneg {lim : Int → Int} (hl : ∀ m, 0 ≤ lim m) (rows : Bool) (w : Nw) (kind h x : Int) : 0 ≤ doCost lim rows w kind h x := by
  unfold doCost
  split
  · refine Int.mul_nonneg (hl _) ?_
    have h1 := (w.len_le h).1
    have h2 := (w.len_le x).1
    cases rows
    · simp
    · simp only [cond_true]; omega
  · exact hl _

theorem Nx.le {I : Hp → (Nat → Prop) → Int → Nw → Prop} {S : Nat → Prop} {st : Int} {H H' : Hp} {w' : Nw} {m m' : Int} (h : Nx I S st H H' w' m) (hm : m ≤ m') : Nx I S st H H' w' m' := by
  obtain ⟨q, S', h1, h2⟩ := h
  exact ⟨q, S', by omega, h2⟩

/-- Behind an act: the document's nest and the other one are the same. -/
def DoPost (I : Hp → (Nat → Prop) → Int → Nw → Prop) (S A : Nat → Prop) (st : Int) (H : Hp) (w : Nw) (cost : Int) (v : Value) (H' : Hp) : Prop :=
  ∃ (wv : Value) (w' : Nw) (A' : Nat → Prop) (q : Nat) (S' : Nat → Prop), v = .tuple [wv, .bool true].toArray ∧ NestR H' wv w' A' ∧ (∀ b, A' b → b < H'.size ∧ ¬ S' b ∧ (A b ∨ H.size ≤ b)) ∧
    (q : Int) ≤ cost ∧ I H' S' (min (st + q) 4611686018427387904) w' ∧ Ext S H H' ∧ (∀ z, S' z → S z ∨ H.size ≤ z) ∧ w'.cs.length = w.cs.length

theorem DoPost.of' {ov : Value} {I : Hp → (Nat → Prop) → Int → Nw → Prop} {lim : Int → Int} {rows : Bool} (ho : NestS ov I lim rows) {S S' A A' : Nat → Prop} {st cost : Int} {H H2 : Hp} {w w' : Nw} {x0 x1 : Value} {b6 : Nat} {l6 : List Value} {q : Nat}
    (n2 : NestR H2 (.agg [x0, x1].toArray) w' A') (hA' : ∀ b, A' b → b < H2.size ∧ ¬ S' b ∧ (A b ∨ H.size ≤ b)) (hb6 : H.size ≤ b6 ∧ ¬ S' b6 ∧ ¬ A' b6) (o6 : H2.own b6 = some l6)
    (hq : (q : Int) ≤ cost) (i2 : I H2 S' (min (st + q) 4611686018427387904) w') (e : Ext S H H2) (hS' : ∀ z, S' z → S z ∨ H.size ≤ z) (hl : w'.cs.length = w.cs.length) :
    DoPost I S A st H w cost (.tuple [.agg [x0, x1].toArray, .bool true].toArray) (H2.wr b6 [x0, x1]) := by
  have e3 : Ext (fun z => z = b6) H2 (H2.wr b6 [x0, x1]) := (Ext.refl (fun z => z = b6) _).wr (fun _ => rfl) _
  exact ⟨_, w', A', q, S', rfl, n2.ext e3 (fun b hb h => hb6.2.2 (h ▸ hb)), fun b hb => ⟨by rw [size_wr]; exact (hA' b hb).1, (hA' b hb).2⟩, hq, (ho.teller S' _ w').keep _ _ _ i2 e3 (fun z hz h => hb6.2.1 (h ▸ hz)), e.trans' e3 (fun z hz h => by have := hb6.1; omega), hS', hl⟩

theorem DoPost.of {ov : Value} {I : Hp → (Nat → Prop) → Int → Nw → Prop} {lim : Int → Int} {rows : Bool} (ho : NestS ov I lim rows) {S S' A A' : Nat → Prop} {st cost : Int} {H H1 H2 : Hp} {w w' : Nw} {x0 x1 : Value} {b6 : Nat} {l6 : List Value} {q : Nat}
    (n1 : NestR H1 (.agg [x0, x1].toArray) w' A') (hA' : ∀ b, A' b → b < H1.size ∧ ¬ S b ∧ (A b ∨ H.size ≤ b)) (hb6 : H.size ≤ b6 ∧ b6 < H1.size) (hA6 : ¬ A' b6) (e1 : Ext S H H1) (hS : ∀ z, S z → z < H.size) (o6 : H2.own b6 = some l6)
    (hq : (q : Int) ≤ cost) (i2 : I H2 S' (min (st + q) 4611686018427387904) w') (e2 : Ext S H1 H2) (hS' : ∀ z, S' z → S z ∨ H1.size ≤ z) (hl : w'.cs.length = w.cs.length) :
    DoPost I S A st H w cost (.tuple [.agg [x0, x1].toArray, .bool true].toArray) (H2.wr b6 [x0, x1]) := by
  have e3 : Ext (fun z => z = b6) H2 (H2.wr b6 [x0, x1]) := (Ext.refl (fun z => z = b6) _).wr (fun _ => rfl) _
  have hS6 : ¬ S' b6 := fun h => by
    rcases hS' b6 h with h1 | h1
    · have := hS b6 h1; omega
    · omega
  have z1 := e1.size
  have z2 := e2.size
  refine ⟨_, w', A', q, S', rfl, (n1.ext e2 (fun b hb => (hA' b hb).2.1)).ext e3 (fun b hb h => hA6 (h ▸ hb)), fun b hb => ⟨?_, fun h => ?_, (hA' b hb).2.2⟩, hq, (ho.teller S' _ w').keep _ _ _ i2 e3 (fun z hz h => hS6 (h ▸ hz)), (e1.trans e2).trans' e3 (fun z hz h => by omega), fun z hz => ?_, hl⟩
  · rw [size_wr]; have := (hA' b hb).1; omega
  · rcases hS' b h with h1 | h1
    · exact (hA' b hb).2.1 h1
    · have := (hA' b hb).1; omega
  · rcases hS' z hz with h1 | h1
    · exact .inl h1
    · exact .inr (by omega)

set_option maxHeartbeats 2000000 in
theorem law05_Do_spec {ov : Value} {I : Hp → (Nat → Prop) → Int → Nw → Prop} {lim : Int → Int} {rows : Bool} (ho : NestS ov I lim rows) {H : Hp} {S A : Nat → Prop} {st : Int} {w : Nw} {wv : Value} (hI : I H S st w) (hn : NestR H wv w A)
    (hA : ∀ b, A b → b < H.size ∧ ¬ S b) (kind h x k s : Int) : CallH Try.prog n_law05_Do [ov, wv, act kind h x k s] H fun v H' => Post (DoPost I S A st H w (doCost lim rows w kind h x) v H') := by
  obtain ⟨ha, hc, ca, cc, rfl, h1, h2, h3, h4, a1, a2⟩ := id hn
  refine c_law05_Do ⟨rfl, ?_⟩
  simp (disch := (first | omega | (simp only [size_new, size_newm, size_wr, size_wrm] <;> omega) | fail)) only [go_sem, Nat.reduceBEq, Nat.reduceAdd, Nat.reduceMul, Nat.reduceLeDiff, ↓reduceIte, rd_new_lt, own_new_lt, mp_new_lt, rd_newm_lt, own_newm_lt, mp_newm_lt, rd_wr_ne, own_wr_ne, mp_wr_ne, rd_wrm_ne, own_wrm_ne, mp_wrm_ne, rd_new_eq, own_new_eq, mp_newm_eq, s_law05_Do, act]
  have f0 : Fresh H (((H.new 108 [.slice ha w.hs.length hc, .slice ca w.cs.length cc]).new 72 [i64 kind, i64 h, i64 x, i64 k, u64 s]).new 108 [.slice none 0 0, .slice none 0 0]) := (((Ext.refl _ _).new _ _).new _ _).new _ _
  have o4 : (((H.new 108 [.slice ha w.hs.length hc, .slice ca w.cs.length cc]).new 72 [i64 kind, i64 h, i64 x, i64 k, u64 s]).new 108 [.slice none 0 0, .slice none 0 0]).own H.size = some [.slice ha w.hs.length hc, .slice ca w.cs.length cc] := by rw [own_new_lt (by simp only [size_new]; omega), own_new_lt (by simp only [size_new]; omega), own_new]
  have o5 : (((H.new 108 [.slice ha w.hs.length hc, .slice ca w.cs.length cc]).new 72 [i64 kind, i64 h, i64 x, i64 k, u64 s]).new 108 [.slice none 0 0, .slice none 0 0]).own (H.size + 1) = some [i64 kind, i64 h, i64 x, i64 k, u64 s] := by rw [own_new_lt (by simp only [size_new]; omega), own_new_eq (by simp only [size_new])]
  have o6 : (((H.new 108 [.slice ha w.hs.length hc, .slice ca w.cs.length cc]).new 72 [i64 kind, i64 h, i64 x, i64 k, u64 s]).new 108 [.slice none 0 0, .slice none 0 0]).own (H.size + 1 + 1) = some [.slice none 0 0, .slice none 0 0] := by rw [own_new_eq (by simp only [size_new])]
  have z0 : (((H.new 108 [.slice ha w.hs.length hc, .slice ca w.cs.length cc]).new 72 [i64 kind, i64 h, i64 x, i64 k, u64 s]).new 108 [.slice none 0 0, .slice none 0 0]).size = H.size + 1 + 1 + 1 := by simp only [size_new]
  generalize ((H.new 108 [.slice ha w.hs.length hc, .slice ca w.cs.length cc]).new 72 [i64 kind, i64 h, i64 x, i64 k, u64 s]).new 108 [.slice none 0 0, .slice none 0 0] = H0 at *
  have hu : ∀ z, S z → z < H.size := (ho.teller S st w).ult H hI
  have n0 := hn.fresh f0
  have i0 := (ho.teller S st w).keep _ _ _ hI f0 (fun _ _ h => h)
  have hA0 : ∀ b, A b → b < H0.size := fun b hb => by have := (hA b hb).1; omega
  have hSe : ∀ {H1 H2 : Hp}, Fresh H1 H2 → Ext S H1 H2 := fun f => f.mono fun _ _ h => h.elim
  have hcost := doCost_nonneg ho.lim0 rows w kind h x
  -- the document's nest behind its call, boxed: what is so then
  have box : ∀ {H1 : Hp} {w1 : Nw} {x0 x1 : Value}, Fresh H0 H1 → NestR H1 (.agg [x0, x1].toArray) w1 (Grow A H0 H1) → ∃ H2, H2 = (H1.new 108 [.slice none 0 0, .slice none 0 0]).wr H1.size [x0, x1] ∧ Fresh H0 H2 ∧ H2.own H1.size = some [x0, x1] ∧ H0.size ≤ H1.size ∧ H1.size < H2.size ∧
      NestR H2 (.agg [x0, x1].toArray) w1 (Grow A H0 H1) ∧ (∀ b, Grow A H0 H1 b → b < H2.size ∧ ¬ S b ∧ (A b ∨ H.size ≤ b)) ∧ ¬ Grow A H0 H1 (H.size + 1 + 1) ∧ H2.own (H.size + 1 + 1) = some [.slice none 0 0, .slice none 0 0] ∧ H2.own (H.size + 1) = some [i64 kind, i64 h, i64 x, i64 k, u64 s] ∧ I H2 S st w := by
    intro H1 w1 x0 x1 f1 n1
    have f2 : Fresh H1 ((H1.new 108 [.slice none 0 0, .slice none 0 0]).wr H1.size [x0, x1]) := ((Ext.refl _ _).new _ _).wr (fun h => absurd h (Nat.lt_irrefl _)) _
    have z1 := f1.size
    refine ⟨_, rfl, f1.trans f2, own_wr_same (own_new _ _ _), z1, by rw [size_wr, size_new]; omega, n1.fresh f2, fun b hb => ?_, fun hb => ?_, (f1.trans f2).own o6 (fun h => h), (f1.trans f2).own o5 (fun h => h), (ho.teller S st w).keep _ _ _ i0 (f1.trans f2) (fun _ _ h => h)⟩
    · rw [size_wr, size_new]
      rcases hb with hb | hb
      · exact ⟨by have := hA0 b hb; omega, (hA b hb).2, .inl hb⟩
      · exact ⟨by omega, fun h => by have := hu b h; omega, .inr (by omega)⟩
    · rcases hb with hb | hb
      · have := (hA _ hb).1; omega
      · omega
  refine Both.dec (fun hk0 => ?_) (fun hk0 => ?_)
  · simp (disch := (first | omega | (simp only [size_new, size_newm, size_wr, size_wrm] <;> omega) | fail)) only [go_sem, Nat.reduceBEq, Nat.reduceAdd, Nat.reduceMul, Nat.reduceLeDiff, ↓reduceIte, rd_new_lt, own_new_lt, mp_new_lt, rd_newm_lt, own_newm_lt, mp_newm_lt, rd_wr_ne, own_wr_ne, mp_wr_ne, rd_wrm_ne, own_wrm_ne, mp_wrm_ne, rd_new_eq, own_new_eq, mp_newm_eq, rd_of_own o4]
    refine (ref05_Make_spec n0 hA0).mono ?_
    rintro r H1 ⟨f1, hm⟩
    obtain ⟨wn, rn, wv1, rfl, n1, hmk⟩ : ∃ (wn : Nw) (rn : Int) (wv1 : Value), r = .tuple [wv1, i64 rn].toArray ∧ NestR H1 wv1 wn (Grow A H0 H1) ∧ ((w.hs.length = 65537 ∧ rn = 0 ∧ wn = w) ∨ (w.hs.length ≠ 65537 ∧ rn = w.hs.length ∧ wn = w.make)) := by
      rcases hm with ⟨hm, v', rfl, n6⟩ | ⟨hm, v', rfl, n6⟩
      · exact ⟨_, _, _, rfl, n6, .inl ⟨hm, rfl, rfl⟩⟩
      · exact ⟨_, _, _, rfl, n6, .inr ⟨hm, rfl, rfl⟩⟩
    obtain ⟨ha1, hc1, ca1, cc1, rfl, -⟩ := id n1
    simp (disch := (first | omega | (simp only [size_new, size_newm, size_wr, size_wrm] <;> omega) | fail)) only [go_sem, Nat.reduceBEq, Nat.reduceAdd, Nat.reduceMul, Nat.reduceLeDiff, ↓reduceIte, rd_new_lt, own_new_lt, mp_new_lt, rd_newm_lt, own_newm_lt, mp_newm_lt, rd_wr_ne, own_wr_ne, mp_wr_ne, rd_wrm_ne, own_wrm_ne, mp_wrm_ne, rd_new_eq, own_new_eq, mp_newm_eq]
    obtain ⟨H2, hH2, f2, b2, g1, g2, n2, hA2, hA6, p6, p5, i2⟩ := box f1 n1
    rw [← hH2]
    refine InvV.intro (fun H' => H'.own H1.size = some [.slice ha1 wn.hs.length hc1, .slice ca1 wn.cs.length cc1]) b2 ?_
    simp (disch := (first | omega | (simp only [size_new, size_newm, size_wr, size_wrm] <;> omega) | fail)) only [go_sem, Nat.reduceBEq, Nat.reduceAdd, Nat.reduceMul, Nat.reduceLeDiff, ↓reduceIte, rd_new_lt, own_new_lt, mp_new_lt, rd_newm_lt, own_newm_lt, mp_newm_lt, rd_wr_ne, own_wr_ne, mp_wr_ne, rd_wrm_ne, own_wrm_ne, mp_wrm_ne, rd_new_eq, own_new_eq, mp_newm_eq]
    refine StbV.intro (.agg [.slice ha1 wn.hs.length hc1, .slice ca1 wn.cs.length cc1].toArray) (fun H' hI => ?_) ?_
    · simp (disch := (first | omega | (simp only [size_new, size_newm, size_wr, size_wrm] <;> omega) | fail)) only [go_sem, Nat.reduceBEq, Nat.reduceAdd, Nat.reduceMul, Nat.reduceLeDiff, ↓reduceIte, rd_new_lt, own_new_lt, mp_new_lt, rd_newm_lt, own_newm_lt, mp_newm_lt, rd_wr_ne, own_wr_ne, mp_wr_ne, rd_wrm_ne, own_wrm_ne, mp_wrm_ne, rd_new_eq, own_new_eq, mp_newm_eq, rd_of_own hI]
      exact ⟨trivial, trivial⟩
    simp (disch := (first | omega | (simp only [size_new, size_newm, size_wr, size_wrm] <;> omega) | fail)) only [go_sem, Nat.reduceBEq, Nat.reduceAdd, Nat.reduceMul, Nat.reduceLeDiff, ↓reduceIte, rd_new_lt, own_new_lt, mp_new_lt, rd_newm_lt, own_newm_lt, mp_newm_lt, rd_wr_ne, own_wr_ne, mp_wr_ne, rd_wrm_ne, own_wrm_ne, mp_wrm_ne, rd_new_eq, own_new_eq, mp_newm_eq]
    refine InvH.mono (ho.make i2) ?_
    rintro v3 H3 hv
    obtain ⟨rfl, q, S', hq, i3, e3, hS3⟩ : v3 = i64 rn ∧ Nx I S st H2 H3 wn 0 := by
      rcases hmk with ⟨e1, rfl, rfl⟩ | ⟨e1, rfl, rfl⟩ <;> rcases hv with ⟨e2, h3, h4⟩ | ⟨e2, h3, h4⟩ <;> first | exact ⟨h3, h4⟩ | exact absurd e1 e2 | exact absurd e2 e1
    have hwl : wn.cs.length = w.cs.length := by rcases hmk with ⟨_, _, rfl⟩ | ⟨_, _, rfl⟩ <;> rfl
    have p7 := e3.own b2 (fun h => by have := hu _ h; omega)
    have p8 := e3.own p6 (fun h => by have := hu _ h; omega)
    refine And.intro p7 ?_
    simp (disch := (first | omega | (simp only [size_new, size_newm, size_wr, size_wrm] <;> omega) | fail)) only [go_sem, Nat.reduceBEq, Nat.reduceAdd, Nat.reduceMul, Nat.reduceLeDiff, ↓reduceIte, rd_new_lt, own_new_lt, mp_new_lt, rd_newm_lt, own_newm_lt, mp_newm_lt, rd_wr_ne, own_wr_ne, mp_wr_ne, rd_wrm_ne, own_wrm_ne, mp_wrm_ne, rd_new_eq, own_new_eq, mp_newm_eq, p8]
    refine And.intro p7 ?_
    simp (disch := (first | omega | (simp only [size_new, size_newm, size_wr, size_wrm] <;> omega) | fail)) only [go_sem, Nat.reduceBEq, Nat.reduceAdd, Nat.reduceMul, Nat.reduceLeDiff, ↓reduceIte, rd_new_lt, own_new_lt, mp_new_lt, rd_newm_lt, own_newm_lt, mp_newm_lt, rd_wr_ne, own_wr_ne, mp_wr_ne, rd_wrm_ne, own_wrm_ne, mp_wrm_ne, rd_new_eq, own_new_eq, mp_newm_eq, rd_wr_same p8, beq_self_eq_true, decide_true]
    exact DoPost.of ho n2 hA2 ⟨by omega, by omega⟩ hA6 (hSe (f0.trans f2)) hu p8 (by omega) i3 e3 hS3 hwl
  -- CASES
  simp (disch := (first | omega | (simp only [size_new, size_newm, size_wr, size_wrm] <;> omega) | fail)) only [go_sem, Nat.reduceBEq, Nat.reduceAdd, Nat.reduceMul, Nat.reduceLeDiff, ↓reduceIte, rd_new_lt, own_new_lt, mp_new_lt, rd_newm_lt, own_newm_lt, mp_newm_lt, rd_wr_ne, own_wr_ne, mp_wr_ne, rd_wrm_ne, own_wrm_ne, mp_wrm_ne, rd_new_eq, own_new_eq, mp_newm_eq]
  refine Both.dec (fun hk1 => ?_) (fun hk1 => ?_)
  · simp (disch := (first | omega | (simp only [size_new, size_newm, size_wr, size_wrm] <;> omega) | fail)) only [go_sem, Nat.reduceBEq, Nat.reduceAdd, Nat.reduceMul, Nat.reduceLeDiff, ↓reduceIte, rd_new_lt, own_new_lt, mp_new_lt, rd_newm_lt, own_newm_lt, mp_newm_lt, rd_wr_ne, own_wr_ne, mp_wr_ne, rd_wrm_ne, own_wrm_ne, mp_wrm_ne, rd_new_eq, own_new_eq, mp_newm_eq, rd_of_own o4, rd_of_own o5]
    refine (ref05_Put_spec n0 hA0 h x k s).mono ?_
    rintro r H1 ⟨f1, hm⟩
    obtain ⟨wn, rn, wv1, rfl, n1, hmk⟩ : ∃ (wn : Nw) (rn : Bool) (wv1 : Value), r = .tuple [wv1, .bool rn].toArray ∧ NestR H1 wv1 wn (Grow A H0 H1) ∧ ((¬ w.canPut h x ∧ rn = false ∧ wn = w) ∨ (w.canPut h x ∧ rn = true ∧ wn = w.put x (h, k, s))) := by
      rcases hm with ⟨hm, v', rfl, n6⟩ | ⟨hm, v', rfl, n6⟩
      · exact ⟨_, _, _, rfl, n6, .inl ⟨hm, rfl, rfl⟩⟩
      · exact ⟨_, _, _, rfl, n6, .inr ⟨hm, rfl, rfl⟩⟩
    obtain ⟨ha1, hc1, ca1, cc1, rfl, -⟩ := id n1
    simp (disch := (first | omega | (simp only [size_new, size_newm, size_wr, size_wrm] <;> omega) | fail)) only [go_sem, Nat.reduceBEq, Nat.reduceAdd, Nat.reduceMul, Nat.reduceLeDiff, ↓reduceIte, rd_new_lt, own_new_lt, mp_new_lt, rd_newm_lt, own_newm_lt, mp_newm_lt, rd_wr_ne, own_wr_ne, mp_wr_ne, rd_wrm_ne, own_wrm_ne, mp_wrm_ne, rd_new_eq, own_new_eq, mp_newm_eq]
    obtain ⟨H2, hH2, f2, b2, g1, g2, n2, hA2, hA6, p6, p5, i2⟩ := box f1 n1
    rw [← hH2]
    refine InvV.intro (fun H' => H'.own H1.size = some [.slice ha1 wn.hs.length hc1, .slice ca1 wn.cs.length cc1] ∧ H'.own (H.size + 1) = some [i64 kind, i64 h, i64 x, i64 k, u64 s]) ⟨b2, p5⟩ ?_
    simp (disch := (first | omega | (simp only [size_new, size_newm, size_wr, size_wrm] <;> omega) | fail)) only [go_sem, Nat.reduceBEq, Nat.reduceAdd, Nat.reduceMul, Nat.reduceLeDiff, ↓reduceIte, rd_new_lt, own_new_lt, mp_new_lt, rd_newm_lt, own_newm_lt, mp_newm_lt, rd_wr_ne, own_wr_ne, mp_wr_ne, rd_wrm_ne, own_wrm_ne, mp_wrm_ne, rd_new_eq, own_new_eq, mp_newm_eq]
    refine StbV.intro (.agg [.slice ha1 wn.hs.length hc1, .slice ca1 wn.cs.length cc1].toArray) (fun H' hI => ?_) ?_
    · simp (disch := (first | omega | (simp only [size_new, size_newm, size_wr, size_wrm] <;> omega) | fail)) only [go_sem, Nat.reduceBEq, Nat.reduceAdd, Nat.reduceMul, Nat.reduceLeDiff, ↓reduceIte, rd_new_lt, own_new_lt, mp_new_lt, rd_newm_lt, own_newm_lt, mp_newm_lt, rd_wr_ne, own_wr_ne, mp_wr_ne, rd_wrm_ne, own_wrm_ne, mp_wrm_ne, rd_new_eq, own_new_eq, mp_newm_eq, rd_of_own hI.1]
      exact ⟨trivial, trivial⟩
    simp (disch := (first | omega | (simp only [size_new, size_newm, size_wr, size_wrm] <;> omega) | fail)) only [go_sem, Nat.reduceBEq, Nat.reduceAdd, Nat.reduceMul, Nat.reduceLeDiff, ↓reduceIte, rd_new_lt, own_new_lt, mp_new_lt, rd_newm_lt, own_newm_lt, mp_newm_lt, rd_wr_ne, own_wr_ne, mp_wr_ne, rd_wrm_ne, own_wrm_ne, mp_wrm_ne, rd_new_eq, own_new_eq, mp_newm_eq]
    refine StbV.intro (i64 h) (fun H' hI => ?_) ?_
    · simp (disch := (first | omega | (simp only [size_new, size_newm, size_wr, size_wrm] <;> omega) | fail)) only [go_sem, Nat.reduceBEq, Nat.reduceAdd, Nat.reduceMul, Nat.reduceLeDiff, ↓reduceIte, rd_new_lt, own_new_lt, mp_new_lt, rd_newm_lt, own_newm_lt, mp_newm_lt, rd_wr_ne, own_wr_ne, mp_wr_ne, rd_wrm_ne, own_wrm_ne, mp_wrm_ne, rd_new_eq, own_new_eq, mp_newm_eq, rd_of_own hI.2]
      exact ⟨trivial, trivial⟩
    simp (disch := (first | omega | (simp only [size_new, size_newm, size_wr, size_wrm] <;> omega) | fail)) only [go_sem, Nat.reduceBEq, Nat.reduceAdd, Nat.reduceMul, Nat.reduceLeDiff, ↓reduceIte, rd_new_lt, own_new_lt, mp_new_lt, rd_newm_lt, own_newm_lt, mp_newm_lt, rd_wr_ne, own_wr_ne, mp_wr_ne, rd_wrm_ne, own_wrm_ne, mp_wrm_ne, rd_new_eq, own_new_eq, mp_newm_eq]
    refine StbV.intro (i64 x) (fun H' hI => ?_) ?_
    · simp (disch := (first | omega | (simp only [size_new, size_newm, size_wr, size_wrm] <;> omega) | fail)) only [go_sem, Nat.reduceBEq, Nat.reduceAdd, Nat.reduceMul, Nat.reduceLeDiff, ↓reduceIte, rd_new_lt, own_new_lt, mp_new_lt, rd_newm_lt, own_newm_lt, mp_newm_lt, rd_wr_ne, own_wr_ne, mp_wr_ne, rd_wrm_ne, own_wrm_ne, mp_wrm_ne, rd_new_eq, own_new_eq, mp_newm_eq, rd_of_own hI.2]
      exact ⟨trivial, trivial⟩
    simp (disch := (first | omega | (simp only [size_new, size_newm, size_wr, size_wrm] <;> omega) | fail)) only [go_sem, Nat.reduceBEq, Nat.reduceAdd, Nat.reduceMul, Nat.reduceLeDiff, ↓reduceIte, rd_new_lt, own_new_lt, mp_new_lt, rd_newm_lt, own_newm_lt, mp_newm_lt, rd_wr_ne, own_wr_ne, mp_wr_ne, rd_wrm_ne, own_wrm_ne, mp_wrm_ne, rd_new_eq, own_new_eq, mp_newm_eq]
    refine StbV.intro (ent k s) (fun H' hI => ?_) ?_
    · simp (disch := (first | omega | (simp only [size_new, size_newm, size_wr, size_wrm] <;> omega) | fail)) only [go_sem, Nat.reduceBEq, Nat.reduceAdd, Nat.reduceMul, Nat.reduceLeDiff, ↓reduceIte, rd_new_lt, own_new_lt, mp_new_lt, rd_newm_lt, own_newm_lt, mp_newm_lt, rd_wr_ne, own_wr_ne, mp_wr_ne, rd_wrm_ne, own_wrm_ne, mp_wrm_ne, rd_new_eq, own_new_eq, mp_newm_eq, rd_of_own hI.2]
      exact ⟨trivial, trivial⟩
    simp (disch := (first | omega | (simp only [size_new, size_newm, size_wr, size_wrm] <;> omega) | fail)) only [go_sem, Nat.reduceBEq, Nat.reduceAdd, Nat.reduceMul, Nat.reduceLeDiff, ↓reduceIte, rd_new_lt, own_new_lt, mp_new_lt, rd_newm_lt, own_newm_lt, mp_newm_lt, rd_wr_ne, own_wr_ne, mp_wr_ne, rd_wrm_ne, own_wrm_ne, mp_wrm_ne, rd_new_eq, own_new_eq, mp_newm_eq]
    refine InvH.mono (ho.insert h x k s i2) ?_
    rintro v3 H3 hv
    obtain ⟨rfl, q, S', hq, i3, e3, hS3⟩ : v3 = .bool rn ∧ Nx I S st H2 H3 wn (doCost lim rows w kind h x) := by
      have hdc : doCost lim rows w kind h x = lim (w.len h + 1) := by
        unfold doCost Nw.actHeap
        rw [if_neg (by omega), if_neg (by omega)]
      rcases hmk with ⟨e1, rfl, rfl⟩ | ⟨e1, rfl, rfl⟩ <;> rcases hv with ⟨e2, h3, h4⟩ | ⟨e2, h3, h4⟩
      · exact ⟨h3, h4.le hcost⟩
      · exact absurd e2 e1
      · exact absurd e1 e2
      · exact ⟨h3, hdc ▸ h4⟩
    have hwl : wn.cs.length = w.cs.length := by
      rcases hmk with ⟨_, _, rfl⟩ | ⟨_, _, rfl⟩
      · rfl
      · exact List.length_set ..
    have p7 := e3.own b2 (fun h => by have := hu _ h; omega)
    have p8 := e3.own p6 (fun h => by have := hu _ h; omega)
    have p9 := e3.own p5 (fun h => by have := hu _ h; omega)
    refine And.intro ⟨p7, p9⟩ ?_
    simp (disch := (first | omega | (simp only [size_new, size_newm, size_wr, size_wrm] <;> omega) | fail)) only [go_sem, Nat.reduceBEq, Nat.reduceAdd, Nat.reduceMul, Nat.reduceLeDiff, ↓reduceIte, rd_new_lt, own_new_lt, mp_new_lt, rd_newm_lt, own_newm_lt, mp_newm_lt, rd_wr_ne, own_wr_ne, mp_wr_ne, rd_wrm_ne, own_wrm_ne, mp_wrm_ne, rd_new_eq, own_new_eq, mp_newm_eq, p8]
    refine And.intro ⟨p7, p9⟩ ?_
    simp (disch := (first | omega | (simp only [size_new, size_newm, size_wr, size_wrm] <;> omega) | fail)) only [go_sem, Nat.reduceBEq, Nat.reduceAdd, Nat.reduceMul, Nat.reduceLeDiff, ↓reduceIte, rd_new_lt, own_new_lt, mp_new_lt, rd_newm_lt, own_newm_lt, mp_newm_lt, rd_wr_ne, own_wr_ne, mp_wr_ne, rd_wrm_ne, own_wrm_ne, mp_wrm_ne, rd_new_eq, own_new_eq, mp_newm_eq, rd_wr_same p8, beq_self_eq_true, decide_true]
    exact DoPost.of ho n2 hA2 ⟨by omega, by omega⟩ hA6 (hSe (f0.trans f2)) hu p8 hq i3 e3 hS3 hwl
  simp (disch := (first | omega | (simp only [size_new, size_newm, size_wr, size_wrm] <;> omega) | fail)) only [go_sem, Nat.reduceBEq, Nat.reduceAdd, Nat.reduceMul, Nat.reduceLeDiff, ↓reduceIte, rd_new_lt, own_new_lt, mp_new_lt, rd_newm_lt, own_newm_lt, mp_newm_lt, rd_wr_ne, own_wr_ne, mp_wr_ne, rd_wrm_ne, own_wrm_ne, mp_wrm_ne, rd_new_eq, own_new_eq, mp_newm_eq]
  refine Both.dec (fun hk2 => ?_) (fun hk2 => ?_)
  · simp (disch := (first | omega | (simp only [size_new, size_newm, size_wr, size_wrm] <;> omega) | fail)) only [go_sem, Nat.reduceBEq, Nat.reduceAdd, Nat.reduceMul, Nat.reduceLeDiff, ↓reduceIte, rd_new_lt, own_new_lt, mp_new_lt, rd_newm_lt, own_newm_lt, mp_newm_lt, rd_wr_ne, own_wr_ne, mp_wr_ne, rd_wrm_ne, own_wrm_ne, mp_wrm_ne, rd_new_eq, own_new_eq, mp_newm_eq]
    refine Both.of_true (decide_eq_true hk2) ?_
    simp (disch := (first | omega | (simp only [size_new, size_newm, size_wr, size_wrm] <;> omega) | fail)) only [go_sem, Nat.reduceBEq, Nat.reduceAdd, Nat.reduceMul, Nat.reduceLeDiff, ↓reduceIte, rd_new_lt, own_new_lt, mp_new_lt, rd_newm_lt, own_newm_lt, mp_newm_lt, rd_wr_ne, own_wr_ne, mp_wr_ne, rd_wrm_ne, own_wrm_ne, mp_wrm_ne, rd_new_eq, own_new_eq, mp_newm_eq, rd_of_own o4, rd_of_own o5]
    refine (ref05_Min_spec n0 h).mono ?_
    rintro r H1 ⟨f1, hm⟩
    obtain ⟨sx, sok, rfl, hs⟩ : ∃ (sx : Int) (sok : Bool), r = .tuple [i64 sx, .bool sok].toArray ∧ ((w.len h = 0 ∧ sok = false ∧ sx = 0) ∨ (w.first h sx ∧ sok = true)) := by
      rcases hm with ⟨hm, rfl⟩ | ⟨y, hy, rfl⟩
      · exact ⟨_, _, rfl, .inl ⟨hm, rfl, rfl⟩⟩
      · exact ⟨_, _, rfl, .inr ⟨hy, rfl⟩⟩
    have p4 := f1.own o4 (fun h => h)
    have p5 := f1.own o5 (fun h => h)
    have p6 := f1.own o6 (fun h => h)
    have i1 := (ho.teller S st w).keep _ _ _ i0 f1 (fun _ _ h => h)
    have n1 := n0.fresh f1
    have z1 := f1.size
    have hdc : doCost lim rows w kind h x = lim (w.len h + 1) := by
      unfold doCost Nw.actHeap
      rw [if_neg (by omega), if_neg (by omega)]
    simp (disch := (first | omega | (simp only [size_new, size_newm, size_wr, size_wrm] <;> omega) | fail)) only [go_sem, Nat.reduceBEq, Nat.reduceAdd, Nat.reduceMul, Nat.reduceLeDiff, ↓reduceIte, rd_new_lt, own_new_lt, mp_new_lt, rd_newm_lt, own_newm_lt, mp_newm_lt, rd_wr_ne, own_wr_ne, mp_wr_ne, rd_wrm_ne, own_wrm_ne, mp_wrm_ne, rd_new_eq, own_new_eq, mp_newm_eq, rd_of_own p5]
    refine Both.of_true (by simp [hk2]) ?_
    simp (disch := (first | omega | (simp only [size_new, size_newm, size_wr, size_wrm] <;> omega) | fail)) only [go_sem, Nat.reduceBEq, Nat.reduceAdd, Nat.reduceMul, Nat.reduceLeDiff, ↓reduceIte, rd_new_lt, own_new_lt, mp_new_lt, rd_newm_lt, own_newm_lt, mp_newm_lt, rd_wr_ne, own_wr_ne, mp_wr_ne, rd_wrm_ne, own_wrm_ne, mp_wrm_ne, rd_new_eq, own_new_eq, mp_newm_eq, rd_of_own p5]
    refine InvH.mono (ho.min h i1) ?_
    rintro v3 H3 hv
    obtain ⟨rfl, q, S', hq, i3, e3, hS3⟩ : v3 = .tuple [i64 sx, .bool sok].toArray ∧ Nx I S st H1 H3 w (doCost lim rows w kind h x) := by
      rw [hdc]
      rcases hs with ⟨e1, rfl, rfl⟩ | ⟨e1, rfl⟩ <;> rcases hv with ⟨e2, h3, h4⟩ | ⟨y, e2, h3, h4⟩
      · exact ⟨h3, h4⟩
      · have := e2.pos; omega
      · have := e1.pos; omega
      · rw [e1.uniq e2]; exact ⟨h3, h4⟩
    have q4 := e3.own p4 (fun h => by have := hu _ h; omega)
    have q6 := e3.own p6 (fun h => by have := hu _ h; omega)
    simp (disch := (first | omega | (simp only [size_new, size_newm, size_wr, size_wrm] <;> omega) | fail)) only [go_sem, Nat.reduceBEq, Nat.reduceAdd, Nat.reduceMul, Nat.reduceLeDiff, ↓reduceIte, rd_new_lt, own_new_lt, mp_new_lt, rd_newm_lt, own_newm_lt, mp_newm_lt, rd_wr_ne, own_wr_ne, mp_wr_ne, rd_wrm_ne, own_wrm_ne, mp_wrm_ne, rd_new_eq, own_new_eq, mp_newm_eq, rd_of_own q4, q6, rd_wr_same q6, beq_self_eq_true, decide_true]
    exact DoPost.of ho n1 (fun b hb => ⟨by have := hA0 b hb; omega, (hA b hb).2, .inl hb⟩) ⟨by omega, by omega⟩ (fun hb => by have := (hA _ hb).1; omega) (hSe (f0.trans f1)) hu q6 hq i3 e3 hS3 rfl
  simp (disch := (first | omega | (simp only [size_new, size_newm, size_wr, size_wrm] <;> omega) | fail)) only [go_sem, Nat.reduceBEq, Nat.reduceAdd, Nat.reduceMul, Nat.reduceLeDiff, ↓reduceIte, rd_new_lt, own_new_lt, mp_new_lt, rd_newm_lt, own_newm_lt, mp_newm_lt, rd_wr_ne, own_wr_ne, mp_wr_ne, rd_wrm_ne, own_wrm_ne, mp_wrm_ne, rd_new_eq, own_new_eq, mp_newm_eq]
  refine Both.dec (fun hk3 => ?_) (fun hk3 => ?_)
  · simp (disch := (first | omega | (simp only [size_new, size_newm, size_wr, size_wrm] <;> omega) | fail)) only [go_sem, Nat.reduceBEq, Nat.reduceAdd, Nat.reduceMul, Nat.reduceLeDiff, ↓reduceIte, rd_new_lt, own_new_lt, mp_new_lt, rd_newm_lt, own_newm_lt, mp_newm_lt, rd_wr_ne, own_wr_ne, mp_wr_ne, rd_wrm_ne, own_wrm_ne, mp_wrm_ne, rd_new_eq, own_new_eq, mp_newm_eq, rd_of_own o4, rd_of_own o5]
    refine (ref05_Min_spec n0 h).mono ?_
    rintro r H1 ⟨f1, hm⟩
    obtain ⟨sx, sok, rfl, hs⟩ : ∃ (sx : Int) (sok : Bool), r = .tuple [i64 sx, .bool sok].toArray ∧ ((w.len h = 0 ∧ sok = false ∧ sx = 0) ∨ (w.first h sx ∧ sok = true)) := by
      rcases hm with ⟨hm, rfl⟩ | ⟨y, hy, rfl⟩
      · exact ⟨_, _, rfl, .inl ⟨hm, rfl, rfl⟩⟩
      · exact ⟨_, _, rfl, .inr ⟨hy, rfl⟩⟩
    have p4 := f1.own o4 (fun h => h)
    have p5 := f1.own o5 (fun h => h)
    have p6 := f1.own o6 (fun h => h)
    have i1 := (ho.teller S st w).keep _ _ _ i0 f1 (fun _ _ h => h)
    have n1 := n0.fresh f1
    have z1 := f1.size
    have hdc : doCost lim rows w kind h x = lim (w.len h + 1) := by
      unfold doCost Nw.actHeap
      rw [if_neg (by omega), if_neg (by omega)]
    simp (disch := (first | omega | (simp only [size_new, size_newm, size_wr, size_wrm] <;> omega) | fail)) only [go_sem, Nat.reduceBEq, Nat.reduceAdd, Nat.reduceMul, Nat.reduceLeDiff, ↓reduceIte, rd_new_lt, own_new_lt, mp_new_lt, rd_newm_lt, own_newm_lt, mp_newm_lt, rd_wr_ne, own_wr_ne, mp_wr_ne, rd_wrm_ne, own_wrm_ne, mp_wrm_ne, rd_new_eq, own_new_eq, mp_newm_eq, rd_of_own p5]
    refine Both.of_false (by simp [hk3]) ?_
    simp (disch := (first | omega | (simp only [size_new, size_newm, size_wr, size_wrm] <;> omega) | fail)) only [go_sem, Nat.reduceBEq, Nat.reduceAdd, Nat.reduceMul, Nat.reduceLeDiff, ↓reduceIte, rd_new_lt, own_new_lt, mp_new_lt, rd_newm_lt, own_newm_lt, mp_newm_lt, rd_wr_ne, own_wr_ne, mp_wr_ne, rd_wrm_ne, own_wrm_ne, mp_wrm_ne, rd_new_eq, own_new_eq, mp_newm_eq, rd_of_own p5]
    refine InvH.mono (ho.extract h i1) ?_
    rintro v3 H3 hv
    rcases hs with ⟨e1, rfl, rfl⟩ | ⟨e1, rfl⟩
    · obtain ⟨rfl, q, S', hq, i3, e3, hS3⟩ : v3 = .tuple [i64 0, .bool false].toArray ∧ Nx I S st H1 H3 w (doCost lim rows w kind h x) := by
        rw [hdc]
        rcases hv with ⟨e2, h3, h4⟩ | ⟨y, e2, h3, h4⟩
        · exact ⟨h3, h4⟩
        · have := e2.pos; omega
      have q4 := e3.own p4 (fun h => by have := hu _ h; omega)
      have q6 := e3.own p6 (fun h => by have := hu _ h; omega)
      simp (disch := (first | omega | (simp only [size_new, size_newm, size_wr, size_wrm] <;> omega) | fail)) only [go_sem, Nat.reduceBEq, Nat.reduceAdd, Nat.reduceMul, Nat.reduceLeDiff, ↓reduceIte, rd_new_lt, own_new_lt, mp_new_lt, rd_newm_lt, own_newm_lt, mp_newm_lt, rd_wr_ne, own_wr_ne, mp_wr_ne, rd_wrm_ne, own_wrm_ne, mp_wrm_ne, rd_new_eq, own_new_eq, mp_newm_eq, rd_of_own q4, q6, rd_wr_same q6, beq_self_eq_true, decide_true]
      exact DoPost.of ho n1 (fun b hb => ⟨by have := hA0 b hb; omega, (hA b hb).2, .inl hb⟩) ⟨by omega, by omega⟩ (fun hb => by have := (hA _ hb).1; omega) (hSe (f0.trans f1)) hu q6 hq i3 e3 hS3 rfl
    · obtain ⟨rfl, q, S', hq, i3, e3, hS3⟩ : v3 = .tuple [i64 sx, .bool true].toArray ∧ Nx I S st H1 H3 (w.put sx (0, 0, 0)) (doCost lim rows w kind h x) := by
        rw [hdc]
        rcases hv with ⟨e2, h3, h4⟩ | ⟨y, e2, h3, h4⟩
        · have := e1.pos; omega
        · rw [e1.uniq e2]; exact ⟨h3, h4⟩
      have q4 := e3.own p4 (fun h => by have := hu _ h; omega)
      have q6 := e3.own p6 (fun h => by have := hu _ h; omega)
      simp (disch := (first | omega | (simp only [size_new, size_newm, size_wr, size_wrm] <;> omega) | fail)) only [go_sem, Nat.reduceBEq, Nat.reduceAdd, Nat.reduceMul, Nat.reduceLeDiff, ↓reduceIte, rd_new_lt, own_new_lt, mp_new_lt, rd_newm_lt, own_newm_lt, mp_newm_lt, rd_wr_ne, own_wr_ne, mp_wr_ne, rd_wrm_ne, own_wrm_ne, mp_wrm_ne, rd_new_eq, own_new_eq, mp_newm_eq, rd_of_own q4]
      have n3 := n1.ext e3 (fun b hb => (hA b hb).2)
      have z3 := e3.size
      refine (ref05_Drop_spec n3 (fun b hb => by have := hA0 b hb; omega) sx).mono ?_
      rintro _ H4 ⟨f4, ⟨hno, _⟩ | ⟨_, v', rfl, n4⟩⟩
      · exact absurd e1.inC hno
      obtain ⟨ha4, hc4, ca4, cc4, rfl, -⟩ := id n4
      have r4 := f4.own q4 (fun h => h)
      have r6 := f4.own q6 (fun h => h)
      have i4 := (ho.teller S' _ _).keep _ _ _ i3 f4 (fun _ _ h => h)
      have z4 := f4.size
      have e5 : Ext (fun z => z = H.size) H4 (H4.wr H.size [.slice ha4 (w.put sx (0, 0, 0)).hs.length hc4, .slice ca4 (w.put sx (0, 0, 0)).cs.length cc4]) := (Ext.refl (fun z => z = H.size) _).wr (fun _ => rfl) _
      have hS4 : ¬ S' H.size := fun h => by
        rcases hS3 _ h with h | h
        · have := hu _ h; omega
        · omega
      have i5 := (ho.teller S' _ _).keep _ _ _ i4 e5 (fun z hz h => hS4 (h ▸ hz))
      have s6 := e5.own r6 (by omega)
      simp (disch := (first | omega | (simp only [size_new, size_newm, size_wr, size_wrm] <;> omega) | fail)) only [go_sem, Nat.reduceBEq, Nat.reduceAdd, Nat.reduceMul, Nat.reduceLeDiff, ↓reduceIte, rd_new_lt, own_new_lt, mp_new_lt, rd_newm_lt, own_newm_lt, mp_newm_lt, rd_wr_ne, own_wr_ne, mp_wr_ne, rd_wrm_ne, own_wrm_ne, mp_wrm_ne, rd_new_eq, own_new_eq, mp_newm_eq, r4, rd_wr_same r4, s6, rd_wr_same s6, beq_self_eq_true, decide_true]
      have n5 := n4.ext e5 (fun b hb h => by
        rcases hb with hb | hb
        · have := (hA b hb).1; omega
        · omega)
      have hS6 : ∀ b, H.size ≤ b → b < H1.size → ¬ S' b := fun b hb1 hb2 h => by
        rcases hS3 _ h with h | h
        · have := hu _ h; omega
        · omega
      refine DoPost.of' ho n5 (fun b hb => ?_) ⟨by omega, hS6 _ (by omega) (by omega), fun hb => ?_⟩ s6 hq i5 (((((hSe (f0.trans f1)).trans e3).trans (hSe f4))).trans' e5 (fun z hz h => by omega)) (fun z hz => ?_) (by simp [Nw.put])
      · rw [size_wr]
        rcases hb with hb | hb
        · refine ⟨by have := (hA b hb).1; omega, fun h => ?_, .inl hb⟩
          rcases hS3 b h with h | h
          · exact (hA b hb).2 h
          · have := (hA b hb).1; omega
        · refine ⟨hb.2, fun h => ?_, .inr (by omega)⟩
          have := (ho.teller S' _ _).ult _ i3 b h
          omega
      · rcases hb with hb | hb
        · have := (hA _ hb).1; omega
        · omega
      · rcases hS3 z hz with h | h
        · exact .inl h
        · exact .inr (by omega)
  simp (disch := (first | omega | (simp only [size_new, size_newm, size_wr, size_wrm] <;> omega) | fail)) only [go_sem, Nat.reduceBEq, Nat.reduceAdd, Nat.reduceMul, Nat.reduceLeDiff, ↓reduceIte, rd_new_lt, own_new_lt, mp_new_lt, rd_newm_lt, own_newm_lt, mp_newm_lt, rd_wr_ne, own_wr_ne, mp_wr_ne, rd_wrm_ne, own_wrm_ne, mp_wrm_ne, rd_new_eq, own_new_eq, mp_newm_eq]
  refine Both.dec (fun hk4 => ?_) (fun hk4 => ?_)
  · simp (disch := (first | omega | (simp only [size_new, size_newm, size_wr, size_wrm] <;> omega) | fail)) only [go_sem, Nat.reduceBEq, Nat.reduceAdd, Nat.reduceMul, Nat.reduceLeDiff, ↓reduceIte, rd_new_lt, own_new_lt, mp_new_lt, rd_newm_lt, own_newm_lt, mp_newm_lt, rd_wr_ne, own_wr_ne, mp_wr_ne, rd_wrm_ne, own_wrm_ne, mp_wrm_ne, rd_new_eq, own_new_eq, mp_newm_eq, rd_of_own o4, rd_of_own o5]
    refine (ref05_Lower_spec n0 hA0 x k s).mono ?_
    rintro r H1 ⟨f1, hm⟩
    obtain ⟨wn, rn, wv1, rfl, n1, hmk⟩ : ∃ (wn : Nw) (rn : Bool) (wv1 : Value), r = .tuple [wv1, .bool rn].toArray ∧ NestR H1 wv1 wn (Grow A H0 H1) ∧ ((¬ w.canLower x k s ∧ rn = false ∧ wn = w) ∨ (InC w.cs x ∧ (∀ y, w.cs[x.toNat]? = some y → ¬ lessE y.2.1 y.2.2 k s) ∧ ∃ y, w.cs[x.toNat]? = some y ∧ rn = true ∧ wn = w.put x (y.1, k, s))) := by
      rcases hm with ⟨hm, v', rfl, n6⟩ | ⟨hm, y, hy, hl, v', rfl, n6⟩
      · exact ⟨_, _, _, rfl, n6, .inl ⟨hm, rfl, rfl⟩⟩
      · exact ⟨_, _, _, rfl, n6, .inr ⟨hm, fun z hz => (by rw [hy] at hz; injection hz with hz; rw [← hz]; exact hl), y, hy, rfl, rfl⟩⟩
    obtain ⟨ha1, hc1, ca1, cc1, rfl, -⟩ := id n1
    simp (disch := (first | omega | (simp only [size_new, size_newm, size_wr, size_wrm] <;> omega) | fail)) only [go_sem, Nat.reduceBEq, Nat.reduceAdd, Nat.reduceMul, Nat.reduceLeDiff, ↓reduceIte, rd_new_lt, own_new_lt, mp_new_lt, rd_newm_lt, own_newm_lt, mp_newm_lt, rd_wr_ne, own_wr_ne, mp_wr_ne, rd_wrm_ne, own_wrm_ne, mp_wrm_ne, rd_new_eq, own_new_eq, mp_newm_eq]
    obtain ⟨H2, hH2, f2, b2, g1, g2, n2, hA2, hA6, p6, p5, i2⟩ := box f1 n1
    rw [← hH2]
    refine InvV.intro (fun H' => H'.own H1.size = some [.slice ha1 wn.hs.length hc1, .slice ca1 wn.cs.length cc1] ∧ H'.own (H.size + 1) = some [i64 kind, i64 h, i64 x, i64 k, u64 s]) ⟨b2, p5⟩ ?_
    simp (disch := (first | omega | (simp only [size_new, size_newm, size_wr, size_wrm] <;> omega) | fail)) only [go_sem, Nat.reduceBEq, Nat.reduceAdd, Nat.reduceMul, Nat.reduceLeDiff, ↓reduceIte, rd_new_lt, own_new_lt, mp_new_lt, rd_newm_lt, own_newm_lt, mp_newm_lt, rd_wr_ne, own_wr_ne, mp_wr_ne, rd_wrm_ne, own_wrm_ne, mp_wrm_ne, rd_new_eq, own_new_eq, mp_newm_eq]
    refine StbV.intro (.agg [.slice ha1 wn.hs.length hc1, .slice ca1 wn.cs.length cc1].toArray) (fun H' hI => ?_) ?_
    · simp (disch := (first | omega | (simp only [size_new, size_newm, size_wr, size_wrm] <;> omega) | fail)) only [go_sem, Nat.reduceBEq, Nat.reduceAdd, Nat.reduceMul, Nat.reduceLeDiff, ↓reduceIte, rd_new_lt, own_new_lt, mp_new_lt, rd_newm_lt, own_newm_lt, mp_newm_lt, rd_wr_ne, own_wr_ne, mp_wr_ne, rd_wrm_ne, own_wrm_ne, mp_wrm_ne, rd_new_eq, own_new_eq, mp_newm_eq, rd_of_own hI.1]
      exact ⟨trivial, trivial⟩
    simp (disch := (first | omega | (simp only [size_new, size_newm, size_wr, size_wrm] <;> omega) | fail)) only [go_sem, Nat.reduceBEq, Nat.reduceAdd, Nat.reduceMul, Nat.reduceLeDiff, ↓reduceIte, rd_new_lt, own_new_lt, mp_new_lt, rd_newm_lt, own_newm_lt, mp_newm_lt, rd_wr_ne, own_wr_ne, mp_wr_ne, rd_wrm_ne, own_wrm_ne, mp_wrm_ne, rd_new_eq, own_new_eq, mp_newm_eq]
    refine StbV.intro (i64 x) (fun H' hI => ?_) ?_
    · simp (disch := (first | omega | (simp only [size_new, size_newm, size_wr, size_wrm] <;> omega) | fail)) only [go_sem, Nat.reduceBEq, Nat.reduceAdd, Nat.reduceMul, Nat.reduceLeDiff, ↓reduceIte, rd_new_lt, own_new_lt, mp_new_lt, rd_newm_lt, own_newm_lt, mp_newm_lt, rd_wr_ne, own_wr_ne, mp_wr_ne, rd_wrm_ne, own_wrm_ne, mp_wrm_ne, rd_new_eq, own_new_eq, mp_newm_eq, rd_of_own hI.2]
      exact ⟨trivial, trivial⟩
    simp (disch := (first | omega | (simp only [size_new, size_newm, size_wr, size_wrm] <;> omega) | fail)) only [go_sem, Nat.reduceBEq, Nat.reduceAdd, Nat.reduceMul, Nat.reduceLeDiff, ↓reduceIte, rd_new_lt, own_new_lt, mp_new_lt, rd_newm_lt, own_newm_lt, mp_newm_lt, rd_wr_ne, own_wr_ne, mp_wr_ne, rd_wrm_ne, own_wrm_ne, mp_wrm_ne, rd_new_eq, own_new_eq, mp_newm_eq]
    refine StbV.intro (ent k s) (fun H' hI => ?_) ?_
    · simp (disch := (first | omega | (simp only [size_new, size_newm, size_wr, size_wrm] <;> omega) | fail)) only [go_sem, Nat.reduceBEq, Nat.reduceAdd, Nat.reduceMul, Nat.reduceLeDiff, ↓reduceIte, rd_new_lt, own_new_lt, mp_new_lt, rd_newm_lt, own_newm_lt, mp_newm_lt, rd_wr_ne, own_wr_ne, mp_wr_ne, rd_wrm_ne, own_wrm_ne, mp_wrm_ne, rd_new_eq, own_new_eq, mp_newm_eq, rd_of_own hI.2]
      exact ⟨trivial, trivial⟩
    simp (disch := (first | omega | (simp only [size_new, size_newm, size_wr, size_wrm] <;> omega) | fail)) only [go_sem, Nat.reduceBEq, Nat.reduceAdd, Nat.reduceMul, Nat.reduceLeDiff, ↓reduceIte, rd_new_lt, own_new_lt, mp_new_lt, rd_newm_lt, own_newm_lt, mp_newm_lt, rd_wr_ne, own_wr_ne, mp_wr_ne, rd_wrm_ne, own_wrm_ne, mp_wrm_ne, rd_new_eq, own_new_eq, mp_newm_eq]
    refine InvH.mono (ho.decrease x k s i2) ?_
    rintro v3 H3 hv
    obtain ⟨rfl, q, S', hq, i3, e3, hS3⟩ : v3 = .bool rn ∧ Nx I S st H2 H3 wn (doCost lim rows w kind h x) := by
      rcases hmk with ⟨e1, rfl, rfl⟩ | ⟨e1, e1', y, hy, rfl, rfl⟩ <;> rcases hv with ⟨e2, h3, h4⟩ | ⟨e2, h3, y', hy', h4⟩
      · exact ⟨h3, h4.le hcost⟩
      · exact absurd e2 e1
      · exact absurd ⟨e1, e1'⟩ e2
      · rw [hy] at hy'
        injection hy' with hy'
        subst hy'
        have hdc : doCost lim rows w kind h x = lim (w.len y.1 + 1) := by
          unfold doCost Nw.actHeap
          rw [if_neg (by omega), if_pos ⟨.inl hk4, e1⟩, List.getD_eq_getElem?_getD, hy]
          rfl
        exact ⟨h3, hdc ▸ h4⟩
    have hwl : wn.cs.length = w.cs.length := by
      rcases hmk with ⟨_, _, rfl⟩ | ⟨_, _, _, _, _, rfl⟩
      · rfl
      · exact List.length_set ..
    have p7 := e3.own b2 (fun h => by have := hu _ h; omega)
    have p8 := e3.own p6 (fun h => by have := hu _ h; omega)
    have p9 := e3.own p5 (fun h => by have := hu _ h; omega)
    refine And.intro ⟨p7, p9⟩ ?_
    simp (disch := (first | omega | (simp only [size_new, size_newm, size_wr, size_wrm] <;> omega) | fail)) only [go_sem, Nat.reduceBEq, Nat.reduceAdd, Nat.reduceMul, Nat.reduceLeDiff, ↓reduceIte, rd_new_lt, own_new_lt, mp_new_lt, rd_newm_lt, own_newm_lt, mp_newm_lt, rd_wr_ne, own_wr_ne, mp_wr_ne, rd_wrm_ne, own_wrm_ne, mp_wrm_ne, rd_new_eq, own_new_eq, mp_newm_eq, p8]
    refine And.intro ⟨p7, p9⟩ ?_
    simp (disch := (first | omega | (simp only [size_new, size_newm, size_wr, size_wrm] <;> omega) | fail)) only [go_sem, Nat.reduceBEq, Nat.reduceAdd, Nat.reduceMul, Nat.reduceLeDiff, ↓reduceIte, rd_new_lt, own_new_lt, mp_new_lt, rd_newm_lt, own_newm_lt, mp_newm_lt, rd_wr_ne, own_wr_ne, mp_wr_ne, rd_wrm_ne, own_wrm_ne, mp_wrm_ne, rd_new_eq, own_new_eq, mp_newm_eq, rd_wr_same p8, beq_self_eq_true, decide_true]
    exact DoPost.of ho n2 hA2 ⟨by omega, by omega⟩ hA6 (hSe (f0.trans f2)) hu p8 hq i3 e3 hS3 hwl
  simp (disch := (first | omega | (simp only [size_new, size_newm, size_wr, size_wrm] <;> omega) | fail)) only [go_sem, Nat.reduceBEq, Nat.reduceAdd, Nat.reduceMul, Nat.reduceLeDiff, ↓reduceIte, rd_new_lt, own_new_lt, mp_new_lt, rd_newm_lt, own_newm_lt, mp_newm_lt, rd_wr_ne, own_wr_ne, mp_wr_ne, rd_wrm_ne, own_wrm_ne, mp_wrm_ne, rd_new_eq, own_new_eq, mp_newm_eq]
  refine Both.dec (fun hk5 => ?_) (fun hk5 => ?_)
  · simp (disch := (first | omega | (simp only [size_new, size_newm, size_wr, size_wrm] <;> omega) | fail)) only [go_sem, Nat.reduceBEq, Nat.reduceAdd, Nat.reduceMul, Nat.reduceLeDiff, ↓reduceIte, rd_new_lt, own_new_lt, mp_new_lt, rd_newm_lt, own_newm_lt, mp_newm_lt, rd_wr_ne, own_wr_ne, mp_wr_ne, rd_wrm_ne, own_wrm_ne, mp_wrm_ne, rd_new_eq, own_new_eq, mp_newm_eq, rd_of_own o4, rd_of_own o5]
    refine (ref05_Drop_spec n0 hA0 x).mono ?_
    rintro r H1 ⟨f1, hm⟩
    obtain ⟨wn, rn, wv1, rfl, n1, hmk⟩ : ∃ (wn : Nw) (rn : Bool) (wv1 : Value), r = .tuple [wv1, .bool rn].toArray ∧ NestR H1 wv1 wn (Grow A H0 H1) ∧ ((¬ InC w.cs x ∧ rn = false ∧ wn = w) ∨ (InC w.cs x ∧ rn = true ∧ wn = w.put x (0, 0, 0))) := by
      rcases hm with ⟨hm, v', rfl, n6⟩ | ⟨hm, v', rfl, n6⟩
      · exact ⟨_, _, _, rfl, n6, .inl ⟨hm, rfl, rfl⟩⟩
      · exact ⟨_, _, _, rfl, n6, .inr ⟨hm, rfl, rfl⟩⟩
    obtain ⟨ha1, hc1, ca1, cc1, rfl, -⟩ := id n1
    simp (disch := (first | omega | (simp only [size_new, size_newm, size_wr, size_wrm] <;> omega) | fail)) only [go_sem, Nat.reduceBEq, Nat.reduceAdd, Nat.reduceMul, Nat.reduceLeDiff, ↓reduceIte, rd_new_lt, own_new_lt, mp_new_lt, rd_newm_lt, own_newm_lt, mp_newm_lt, rd_wr_ne, own_wr_ne, mp_wr_ne, rd_wrm_ne, own_wrm_ne, mp_wrm_ne, rd_new_eq, own_new_eq, mp_newm_eq]
    obtain ⟨H2, hH2, f2, b2, g1, g2, n2, hA2, hA6, p6, p5, i2⟩ := box f1 n1
    rw [← hH2]
    refine InvV.intro (fun H' => H'.own H1.size = some [.slice ha1 wn.hs.length hc1, .slice ca1 wn.cs.length cc1] ∧ H'.own (H.size + 1) = some [i64 kind, i64 h, i64 x, i64 k, u64 s]) ⟨b2, p5⟩ ?_
    simp (disch := (first | omega | (simp only [size_new, size_newm, size_wr, size_wrm] <;> omega) | fail)) only [go_sem, Nat.reduceBEq, Nat.reduceAdd, Nat.reduceMul, Nat.reduceLeDiff, ↓reduceIte, rd_new_lt, own_new_lt, mp_new_lt, rd_newm_lt, own_newm_lt, mp_newm_lt, rd_wr_ne, own_wr_ne, mp_wr_ne, rd_wrm_ne, own_wrm_ne, mp_wrm_ne, rd_new_eq, own_new_eq, mp_newm_eq]
    refine StbV.intro (.agg [.slice ha1 wn.hs.length hc1, .slice ca1 wn.cs.length cc1].toArray) (fun H' hI => ?_) ?_
    · simp (disch := (first | omega | (simp only [size_new, size_newm, size_wr, size_wrm] <;> omega) | fail)) only [go_sem, Nat.reduceBEq, Nat.reduceAdd, Nat.reduceMul, Nat.reduceLeDiff, ↓reduceIte, rd_new_lt, own_new_lt, mp_new_lt, rd_newm_lt, own_newm_lt, mp_newm_lt, rd_wr_ne, own_wr_ne, mp_wr_ne, rd_wrm_ne, own_wrm_ne, mp_wrm_ne, rd_new_eq, own_new_eq, mp_newm_eq, rd_of_own hI.1]
      exact ⟨trivial, trivial⟩
    simp (disch := (first | omega | (simp only [size_new, size_newm, size_wr, size_wrm] <;> omega) | fail)) only [go_sem, Nat.reduceBEq, Nat.reduceAdd, Nat.reduceMul, Nat.reduceLeDiff, ↓reduceIte, rd_new_lt, own_new_lt, mp_new_lt, rd_newm_lt, own_newm_lt, mp_newm_lt, rd_wr_ne, own_wr_ne, mp_wr_ne, rd_wrm_ne, own_wrm_ne, mp_wrm_ne, rd_new_eq, own_new_eq, mp_newm_eq]
    refine StbV.intro (i64 x) (fun H' hI => ?_) ?_
    · simp (disch := (first | omega | (simp only [size_new, size_newm, size_wr, size_wrm] <;> omega) | fail)) only [go_sem, Nat.reduceBEq, Nat.reduceAdd, Nat.reduceMul, Nat.reduceLeDiff, ↓reduceIte, rd_new_lt, own_new_lt, mp_new_lt, rd_newm_lt, own_newm_lt, mp_newm_lt, rd_wr_ne, own_wr_ne, mp_wr_ne, rd_wrm_ne, own_wrm_ne, mp_wrm_ne, rd_new_eq, own_new_eq, mp_newm_eq, rd_of_own hI.2]
      exact ⟨trivial, trivial⟩
    simp (disch := (first | omega | (simp only [size_new, size_newm, size_wr, size_wrm] <;> omega) | fail)) only [go_sem, Nat.reduceBEq, Nat.reduceAdd, Nat.reduceMul, Nat.reduceLeDiff, ↓reduceIte, rd_new_lt, own_new_lt, mp_new_lt, rd_newm_lt, own_newm_lt, mp_newm_lt, rd_wr_ne, own_wr_ne, mp_wr_ne, rd_wrm_ne, own_wrm_ne, mp_wrm_ne, rd_new_eq, own_new_eq, mp_newm_eq]
    refine InvH.mono (ho.delete x i2) ?_
    rintro v3 H3 hv
    obtain ⟨rfl, q, S', hq, i3, e3, hS3⟩ : v3 = .bool rn ∧ Nx I S st H2 H3 wn (doCost lim rows w kind h x) := by
      rcases hmk with ⟨e1, rfl, rfl⟩ | ⟨e1, rfl, rfl⟩ <;> rcases hv with ⟨e2, h3, h4⟩ | ⟨e2, h3, y, hy, h4⟩
      · exact ⟨h3, h4.le hcost⟩
      · exact absurd e2 e1
      · exact absurd e1 e2
      · have hdc : doCost lim rows w kind h x = lim (w.len y.1 + 1) := by
          unfold doCost Nw.actHeap
          rw [if_neg (by omega), if_pos ⟨.inr hk5, e1⟩, List.getD_eq_getElem?_getD, hy]
          rfl
        exact ⟨h3, hdc ▸ h4⟩
    have hwl : wn.cs.length = w.cs.length := by
      rcases hmk with ⟨_, _, rfl⟩ | ⟨_, _, rfl⟩
      · rfl
      · exact List.length_set ..
    have p7 := e3.own b2 (fun h => by have := hu _ h; omega)
    have p8 := e3.own p6 (fun h => by have := hu _ h; omega)
    have p9 := e3.own p5 (fun h => by have := hu _ h; omega)
    refine And.intro ⟨p7, p9⟩ ?_
    simp (disch := (first | omega | (simp only [size_new, size_newm, size_wr, size_wrm] <;> omega) | fail)) only [go_sem, Nat.reduceBEq, Nat.reduceAdd, Nat.reduceMul, Nat.reduceLeDiff, ↓reduceIte, rd_new_lt, own_new_lt, mp_new_lt, rd_newm_lt, own_newm_lt, mp_newm_lt, rd_wr_ne, own_wr_ne, mp_wr_ne, rd_wrm_ne, own_wrm_ne, mp_wrm_ne, rd_new_eq, own_new_eq, mp_newm_eq, p8]
    refine And.intro ⟨p7, p9⟩ ?_
    simp (disch := (first | omega | (simp only [size_new, size_newm, size_wr, size_wrm] <;> omega) | fail)) only [go_sem, Nat.reduceBEq, Nat.reduceAdd, Nat.reduceMul, Nat.reduceLeDiff, ↓reduceIte, rd_new_lt, own_new_lt, mp_new_lt, rd_newm_lt, own_newm_lt, mp_newm_lt, rd_wr_ne, own_wr_ne, mp_wr_ne, rd_wrm_ne, own_wrm_ne, mp_wrm_ne, rd_new_eq, own_new_eq, mp_newm_eq, rd_wr_same p8, beq_self_eq_true, decide_true]
    exact DoPost.of ho n2 hA2 ⟨by omega, by omega⟩ hA6 (hSe (f0.trans f2)) hu p8 hq i3 e3 hS3 hwl
  simp (disch := (first | omega | (simp only [size_new, size_newm, size_wr, size_wrm] <;> omega) | fail)) only [go_sem, Nat.reduceBEq, Nat.reduceAdd, Nat.reduceMul, Nat.reduceLeDiff, ↓reduceIte, rd_new_lt, own_new_lt, mp_new_lt, rd_newm_lt, own_newm_lt, mp_newm_lt, rd_wr_ne, own_wr_ne, mp_wr_ne, rd_wrm_ne, own_wrm_ne, mp_wrm_ne, rd_new_eq, own_new_eq, mp_newm_eq]
  refine Both.dec (fun hk6 => ?_) (fun hk6 => ?_)
  · simp (disch := (first | omega | (simp only [size_new, size_newm, size_wr, size_wrm] <;> omega) | fail)) only [go_sem, Nat.reduceBEq, Nat.reduceAdd, Nat.reduceMul, Nat.reduceLeDiff, ↓reduceIte, rd_new_lt, own_new_lt, mp_new_lt, rd_newm_lt, own_newm_lt, mp_newm_lt, rd_wr_ne, own_wr_ne, mp_wr_ne, rd_wrm_ne, own_wrm_ne, mp_wrm_ne, rd_new_eq, own_new_eq, mp_newm_eq, rd_of_own o4, rd_of_own o5]
    refine (ref05_Join_spec n0 hA0 h x).mono ?_
    rintro r H1 ⟨f1, hm⟩
    obtain ⟨wn, rn, wv1, rfl, n1, hmk⟩ : ∃ (wn : Nw) (rn : Bool) (wv1 : Value), r = .tuple [wv1, .bool rn].toArray ∧ NestR H1 wv1 wn (Grow A H0 H1) ∧ ((¬ (w.has h ∧ w.has x ∧ h ≠ x) ∧ rn = false ∧ wn = w) ∨ ((w.has h ∧ w.has x ∧ h ≠ x) ∧ rn = true ∧ wn = w.join h x)) := by
      rcases hm with ⟨hm, v', rfl, n6⟩ | ⟨hm, v', rfl, n6⟩
      · exact ⟨_, _, _, rfl, n6, .inl ⟨hm, rfl, rfl⟩⟩
      · exact ⟨_, _, _, rfl, n6, .inr ⟨hm, rfl, rfl⟩⟩
    obtain ⟨ha1, hc1, ca1, cc1, rfl, -⟩ := id n1
    simp (disch := (first | omega | (simp only [size_new, size_newm, size_wr, size_wrm] <;> omega) | fail)) only [go_sem, Nat.reduceBEq, Nat.reduceAdd, Nat.reduceMul, Nat.reduceLeDiff, ↓reduceIte, rd_new_lt, own_new_lt, mp_new_lt, rd_newm_lt, own_newm_lt, mp_newm_lt, rd_wr_ne, own_wr_ne, mp_wr_ne, rd_wrm_ne, own_wrm_ne, mp_wrm_ne, rd_new_eq, own_new_eq, mp_newm_eq]
    obtain ⟨H2, hH2, f2, b2, g1, g2, n2, hA2, hA6, p6, p5, i2⟩ := box f1 n1
    rw [← hH2]
    refine InvV.intro (fun H' => H'.own H1.size = some [.slice ha1 wn.hs.length hc1, .slice ca1 wn.cs.length cc1] ∧ H'.own (H.size + 1) = some [i64 kind, i64 h, i64 x, i64 k, u64 s]) ⟨b2, p5⟩ ?_
    simp (disch := (first | omega | (simp only [size_new, size_newm, size_wr, size_wrm] <;> omega) | fail)) only [go_sem, Nat.reduceBEq, Nat.reduceAdd, Nat.reduceMul, Nat.reduceLeDiff, ↓reduceIte, rd_new_lt, own_new_lt, mp_new_lt, rd_newm_lt, own_newm_lt, mp_newm_lt, rd_wr_ne, own_wr_ne, mp_wr_ne, rd_wrm_ne, own_wrm_ne, mp_wrm_ne, rd_new_eq, own_new_eq, mp_newm_eq]
    refine StbV.intro (.agg [.slice ha1 wn.hs.length hc1, .slice ca1 wn.cs.length cc1].toArray) (fun H' hI => ?_) ?_
    · simp (disch := (first | omega | (simp only [size_new, size_newm, size_wr, size_wrm] <;> omega) | fail)) only [go_sem, Nat.reduceBEq, Nat.reduceAdd, Nat.reduceMul, Nat.reduceLeDiff, ↓reduceIte, rd_new_lt, own_new_lt, mp_new_lt, rd_newm_lt, own_newm_lt, mp_newm_lt, rd_wr_ne, own_wr_ne, mp_wr_ne, rd_wrm_ne, own_wrm_ne, mp_wrm_ne, rd_new_eq, own_new_eq, mp_newm_eq, rd_of_own hI.1]
      exact ⟨trivial, trivial⟩
    simp (disch := (first | omega | (simp only [size_new, size_newm, size_wr, size_wrm] <;> omega) | fail)) only [go_sem, Nat.reduceBEq, Nat.reduceAdd, Nat.reduceMul, Nat.reduceLeDiff, ↓reduceIte, rd_new_lt, own_new_lt, mp_new_lt, rd_newm_lt, own_newm_lt, mp_newm_lt, rd_wr_ne, own_wr_ne, mp_wr_ne, rd_wrm_ne, own_wrm_ne, mp_wrm_ne, rd_new_eq, own_new_eq, mp_newm_eq]
    refine StbV.intro (i64 h) (fun H' hI => ?_) ?_
    · simp (disch := (first | omega | (simp only [size_new, size_newm, size_wr, size_wrm] <;> omega) | fail)) only [go_sem, Nat.reduceBEq, Nat.reduceAdd, Nat.reduceMul, Nat.reduceLeDiff, ↓reduceIte, rd_new_lt, own_new_lt, mp_new_lt, rd_newm_lt, own_newm_lt, mp_newm_lt, rd_wr_ne, own_wr_ne, mp_wr_ne, rd_wrm_ne, own_wrm_ne, mp_wrm_ne, rd_new_eq, own_new_eq, mp_newm_eq, rd_of_own hI.2]
      exact ⟨trivial, trivial⟩
    simp (disch := (first | omega | (simp only [size_new, size_newm, size_wr, size_wrm] <;> omega) | fail)) only [go_sem, Nat.reduceBEq, Nat.reduceAdd, Nat.reduceMul, Nat.reduceLeDiff, ↓reduceIte, rd_new_lt, own_new_lt, mp_new_lt, rd_newm_lt, own_newm_lt, mp_newm_lt, rd_wr_ne, own_wr_ne, mp_wr_ne, rd_wrm_ne, own_wrm_ne, mp_wrm_ne, rd_new_eq, own_new_eq, mp_newm_eq]
    refine StbV.intro (i64 x) (fun H' hI => ?_) ?_
    · simp (disch := (first | omega | (simp only [size_new, size_newm, size_wr, size_wrm] <;> omega) | fail)) only [go_sem, Nat.reduceBEq, Nat.reduceAdd, Nat.reduceMul, Nat.reduceLeDiff, ↓reduceIte, rd_new_lt, own_new_lt, mp_new_lt, rd_newm_lt, own_newm_lt, mp_newm_lt, rd_wr_ne, own_wr_ne, mp_wr_ne, rd_wrm_ne, own_wrm_ne, mp_wrm_ne, rd_new_eq, own_new_eq, mp_newm_eq, rd_of_own hI.2]
      exact ⟨trivial, trivial⟩
    simp (disch := (first | omega | (simp only [size_new, size_newm, size_wr, size_wrm] <;> omega) | fail)) only [go_sem, Nat.reduceBEq, Nat.reduceAdd, Nat.reduceMul, Nat.reduceLeDiff, ↓reduceIte, rd_new_lt, own_new_lt, mp_new_lt, rd_newm_lt, own_newm_lt, mp_newm_lt, rd_wr_ne, own_wr_ne, mp_wr_ne, rd_wrm_ne, own_wrm_ne, mp_wrm_ne, rd_new_eq, own_new_eq, mp_newm_eq]
    refine InvH.mono (ho.meld h x i2) ?_
    rintro v3 H3 hv
    obtain ⟨rfl, q, S', hq, i3, e3, hS3⟩ : v3 = .bool rn ∧ Nx I S st H2 H3 wn (doCost lim rows w kind h x) := by
      have hdc : doCost lim rows w kind h x = lim (w.len h + w.len x + 1) * (bif rows then min (w.len h) (w.len x) + 1 else 1) := by
        unfold doCost
        rw [if_pos hk6]
      rcases hmk with ⟨e1, rfl, rfl⟩ | ⟨e1, rfl, rfl⟩ <;> rcases hv with ⟨e2, h3, h4⟩ | ⟨e2, h3, h4⟩
      · exact ⟨h3, h4.le hcost⟩
      · exact absurd e2 e1
      · exact absurd e1 e2
      · exact ⟨h3, hdc ▸ h4⟩
    have hwl : wn.cs.length = w.cs.length := by
      rcases hmk with ⟨_, _, rfl⟩ | ⟨_, _, rfl⟩
      · rfl
      · exact List.length_map ..
    have p7 := e3.own b2 (fun h => by have := hu _ h; omega)
    have p8 := e3.own p6 (fun h => by have := hu _ h; omega)
    have p9 := e3.own p5 (fun h => by have := hu _ h; omega)
    refine And.intro ⟨p7, p9⟩ ?_
    simp (disch := (first | omega | (simp only [size_new, size_newm, size_wr, size_wrm] <;> omega) | fail)) only [go_sem, Nat.reduceBEq, Nat.reduceAdd, Nat.reduceMul, Nat.reduceLeDiff, ↓reduceIte, rd_new_lt, own_new_lt, mp_new_lt, rd_newm_lt, own_newm_lt, mp_newm_lt, rd_wr_ne, own_wr_ne, mp_wr_ne, rd_wrm_ne, own_wrm_ne, mp_wrm_ne, rd_new_eq, own_new_eq, mp_newm_eq, p8]
    refine And.intro ⟨p7, p9⟩ ?_
    simp (disch := (first | omega | (simp only [size_new, size_newm, size_wr, size_wrm] <;> omega) | fail)) only [go_sem, Nat.reduceBEq, Nat.reduceAdd, Nat.reduceMul, Nat.reduceLeDiff, ↓reduceIte, rd_new_lt, own_new_lt, mp_new_lt, rd_newm_lt, own_newm_lt, mp_newm_lt, rd_wr_ne, own_wr_ne, mp_wr_ne, rd_wrm_ne, own_wrm_ne, mp_wrm_ne, rd_new_eq, own_new_eq, mp_newm_eq, rd_wr_same p8, beq_self_eq_true, decide_true]
    exact DoPost.of ho n2 hA2 ⟨by omega, by omega⟩ hA6 (hSe (f0.trans f2)) hu p8 hq i3 e3 hS3 hwl
  simp (disch := (first | omega | (simp only [size_new, size_newm, size_wr, size_wrm] <;> omega) | fail)) only [go_sem, Nat.reduceBEq, Nat.reduceAdd, Nat.reduceMul, Nat.reduceLeDiff, ↓reduceIte, rd_new_lt, own_new_lt, mp_new_lt, rd_newm_lt, own_newm_lt, mp_newm_lt, rd_wr_ne, own_wr_ne, mp_wr_ne, rd_wrm_ne, own_wrm_ne, mp_wrm_ne, rd_new_eq, own_new_eq, mp_newm_eq, rd_of_own o4, o6, rd_wr_same o6]
  exact DoPost.of' (q := 0) ho n0 (fun b hb => ⟨hA0 b hb, (hA b hb).2, .inl hb⟩) ⟨by omega, fun h => by have := hu _ h; omega, fun h => by have := hA _ h; omega⟩ o6 (by omega) (by
    have := (ho.cells i0)
    obtain ⟨c, C, hc⟩ := this
    have := hc.st
    rw [show min (st + ((0 : Nat) : Int)) 4611686018427387904 = st by omega]
    exact i0) (hSe f0) (fun z hz => .inl hz) rfl

end Go.Proofs.Yteicchpglnamcaa
