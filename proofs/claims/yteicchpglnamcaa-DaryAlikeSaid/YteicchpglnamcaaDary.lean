/-
  The package dary: what a nest of rows is in memory; a new one; one heap more; a slot comes in; the first slot.
-/
import Derived.Test.YteicchpglnamcaaLtw
import Derived.Test.YteicchpglnamcaaRemove
import Derived.Test.YteicchpglnamcaaHeapOn
set_option linter.unusedVariables false
set_option linter.unusedSimpArgs false
namespace Go.Proofs.Yteicchpglnamcaa
open Go Go.Vc

/-- A row of a nest: its block, all of its memory, its things, of each its place. -/
structure Rw where
  r : Nat
  S : Nat → Prop
  l : List Int
  pl : Int → Option Int

def rwV : Option Rw → Value
  | none => .pointer none
  | some R => ptr R.r

/-- A nest of rows in memory: its cells, of each heap its row. -/
structure DaryM (H : Hp) (n c : Nat) (C : Nat → Prop) (rv : Value) (fp : Option Nat) (d st : Int) (w : Nw) (rs : List (Option Rw)) : Prop where
  own : H.own n = some [ptr c, i64 d, rv]
  cells : CellsN H c C st w
  sl : Sl H 1 rv rs.length (rs.map rwV) fp
  row : ∀ (h : Nat) R, rs[h]? = some (some R) → RowAt H R.r R.S d R.l R.pl
  nC : ¬ C n
  fpd : ∀ b, fp = some b → b ≠ n ∧ ¬ C b
  rowd : ∀ (h : Nat) R, rs[h]? = some (some R) → ∀ x, R.S x → ¬ C x ∧ x ≠ n ∧ fp ≠ some x
  rowrow : ∀ (h h' : Nat) R R', rs[h]? = some (some R) → rs[h']? = some (some R') → h ≠ h' → ∀ x, R.S x → ¬ R'.S x

/-- All of its memory. -/
def DaryS (n : Nat) (C : Nat → Prop) (fp : Option Nat) (rs : List (Option Rw)) (z : Nat) : Prop := C z ∨ z = n ∨ fp = some z ∨ ∃ (h : Nat) (R : Rw), rs[h]? = some (some R) ∧ R.S z

/-- That the rows are those of the nest. -/
structure DaryL (d : Int) (w : Nw) (rs : List (Option Rw)) : Prop where
  fine : FineD d
  hl : rs.length = w.hs.length
  hs : ∀ h : Nat, w.hs[h]? = some true ↔ ∃ R, rs[h]? = some (some R)
  h0 : rs[0]? = some none
  ok : ∀ (h : Nat) R, rs[h]? = some (some R) → HeapOn (ltW w) d R.l R.pl
  mem : ∀ (h : Nat) R, rs[h]? = some (some R) → ∀ x : Int, x ∈ R.l ↔ 0 ≤ x ∧ ∃ e, w.cs[x.toNat]? = some (((h : Nat) : Int), e)
  len : ∀ (h : Nat) R, rs[h]? = some (some R) → (R.l.length : Int) = w.len h

/-- A nest of rows at block n, all of whose memory is S. -/
def DaryAt (H : Hp) (n : Nat) (S : Nat → Prop) (d st : Int) (w : Nw) : Prop := ∃ c C rv fp rs, DaryM H n c C rv fp d st w rs ∧ DaryL d w rs ∧ (∀ z, DaryS n C fp rs z ↔ S z)

theorem DaryM.slt {H : Hp} {n c : Nat} {C : Nat → Prop} {rv : Value} {fp : Option Nat} {d st : Int} {w : Nw} {rs : List (Option Rw)} (h : DaryM H n c C rv fp d st w rs) : ∀ z, DaryS n C fp rs z → z < H.size := by
  rintro z (hz | rfl | hz | ⟨i, R, hR, hz⟩)
  · exact h.cells.slt z hz
  · exact own_lt h.own
  · exact Sl.lt (hz ▸ h.sl)
  · exact (h.row i R hR).slt z hz

theorem DaryM.ext {H H' : Hp} {n c : Nat} {C T : Nat → Prop} {rv : Value} {fp : Option Nat} {d st : Int} {w : Nw} {rs : List (Option Rw)} (h : DaryM H n c C rv fp d st w rs) (e : Ext T H H') (hd : ∀ z, DaryS n C fp rs z → ¬ T z) : DaryM H' n c C rv fp d st w rs :=
  ⟨e.own h.own (hd n (.inr (.inl rfl))), h.cells.ext e (fun x hx => hd x (.inl hx)), h.sl.ext e (fun b hb => hd b (.inr (.inr (.inl hb)))), fun i R hR => (h.row i R hR).ext e (fun x hx => hd x (.inr (.inr (.inr ⟨i, R, hR, hx⟩)))), h.nC, h.fpd, h.rowd, h.rowrow⟩

theorem DaryAt.slt {H : Hp} {n : Nat} {S : Nat → Prop} {d st : Int} {w : Nw} (h : DaryAt H n S d st w) : ∀ z, S z → z < H.size := by
  obtain ⟨c, C, rv, fp, rs, m, l, hS⟩ := h
  exact fun z hz => m.slt z ((hS z).2 hz)

theorem DaryAt.ext {H H' : Hp} {n : Nat} {S T : Nat → Prop} {d st : Int} {w : Nw} (h : DaryAt H n S d st w) (e : Ext T H H') (hd : ∀ z, S z → ¬ T z) : DaryAt H' n S d st w := by
  obtain ⟨c, C, rv, fp, rs, m, l, hS⟩ := h
  exact ⟨c, C, rv, fp, rs, m.ext e (fun z hz => hd z ((hS z).1 hz)), l, hS⟩
theorem DaryAt.fresh {H H' : Hp} {n : Nat} {S : Nat → Prop} {d st : Int} {w : Nw} (h : DaryAt H n S d st w) (e : Fresh H H') : DaryAt H' n S d st w := h.ext e fun _ _ h => h

theorem dary_New_spec (cap d : Int) (H : Hp) : CallH Try.prog n_dary_New [i64 cap, i64 d] H fun v H' => Post (
    Fresh H H' ∧ ((¬ (0 ≤ cap ∧ cap ≤ 65536) ∧ v = .tuple [.pointer none, i64 31].toArray) ∨ ((0 ≤ cap ∧ cap ≤ 65536) ∧ ¬ FineD d ∧ v = .tuple [.pointer none, i64 22].toArray) ∨
      ((0 ≤ cap ∧ cap ≤ 65536) ∧ FineD d ∧ ∃ n S, v = .tuple [ptr n, i64 0].toArray ∧ DaryAt H' n S d 0 ⟨[false], List.replicate cap.toNat (0, 0, 0)⟩ ∧ ∀ x, S x → H.size ≤ x))) := by
  refine c_dary_New ⟨rfl, ?_⟩
  simp (disch := (first | omega | (simp only [size_new, size_newm, size_wr, size_wrm] <;> omega) | fail)) only [go_sem, Nat.reduceBEq, Nat.reduceAdd, Nat.reduceMul, Nat.reduceLeDiff, ↓reduceIte, rd_new_lt, own_new_lt, mp_new_lt, rd_newm_lt, own_newm_lt, mp_newm_lt, rd_wr_ne, own_wr_ne, mp_wr_ne, rd_wrm_ne, own_wrm_ne, mp_wrm_ne, rd_new_eq, own_new_eq, mp_newm_eq, s_dary_New]
  refine (cellsN_New_spec cap H).mono ?_
  rintro _ H1 ⟨f1, ⟨hb, rfl⟩ | ⟨hb, c, C, rfl, c1, hC⟩⟩
  · simp (disch := (first | omega | (simp only [size_new, size_newm, size_wr, size_wrm] <;> omega) | fail)) only [go_sem, Nat.reduceBEq, Nat.reduceAdd, Nat.reduceMul, Nat.reduceLeDiff, ↓reduceIte, rd_new_lt, own_new_lt, mp_new_lt, rd_newm_lt, own_newm_lt, mp_newm_lt, rd_wr_ne, own_wr_ne, mp_wr_ne, rd_wrm_ne, own_wrm_ne, mp_wrm_ne, rd_new_eq, own_new_eq, mp_newm_eq]
    exact ⟨f1, .inl ⟨hb, rfl⟩⟩
  simp (disch := (first | omega | (simp only [size_new, size_newm, size_wr, size_wrm] <;> omega) | fail)) only [go_sem, Nat.reduceBEq, Nat.reduceAdd, Nat.reduceMul, Nat.reduceLeDiff, ↓reduceIte, rd_new_lt, own_new_lt, mp_new_lt, rd_newm_lt, own_newm_lt, mp_newm_lt, rd_wr_ne, own_wr_ne, mp_wr_ne, rd_wrm_ne, own_wrm_ne, mp_wrm_ne, rd_new_eq, own_new_eq, mp_newm_eq]
  refine (sift_New_spec d H1).mono ?_
  rintro _ H2 ⟨f2, ⟨hf, rfl⟩ | ⟨hf, r, S, rfl, r2, hS⟩⟩
  · simp (disch := (first | omega | (simp only [size_new, size_newm, size_wr, size_wrm] <;> omega) | fail)) only [go_sem, Nat.reduceBEq, Nat.reduceAdd, Nat.reduceMul, Nat.reduceLeDiff, ↓reduceIte, rd_new_lt, own_new_lt, mp_new_lt, rd_newm_lt, own_newm_lt, mp_newm_lt, rd_wr_ne, own_wr_ne, mp_wr_ne, rd_wrm_ne, own_wrm_ne, mp_wrm_ne, rd_new_eq, own_new_eq, mp_newm_eq]
    exact ⟨f1.trans f2, .inr (.inl ⟨hb, hf, rfl⟩)⟩
  simp (disch := (first | omega | (simp only [size_new, size_newm, size_wr, size_wrm] <;> omega) | fail)) only [go_sem, Nat.reduceBEq, Nat.reduceAdd, Nat.reduceMul, Nat.reduceLeDiff, ↓reduceIte, rd_new_lt, own_new_lt, mp_new_lt, rd_newm_lt, own_newm_lt, mp_newm_lt, rd_wr_ne, own_wr_ne, mp_wr_ne, rd_wrm_ne, own_wrm_ne, mp_wrm_ne, rd_new_eq, own_new_eq, mp_newm_eq, decide_true]
  have f3 : Fresh H2 ((H2.new 92 [.pointer none]).new 62 [ptr c, i64 d, .slice (some ⟨H2.size, 0, none⟩) 1 1]) := ((Ext.refl _ _).new _ _).new _ _
  have z1 := f1.size
  have z2 := f2.size
  have hcs := c1.slt
  refine ⟨(f1.trans f2).trans f3, .inr (.inr ⟨hb, hf, H2.size + 1, DaryS (H2.size + 1) C (some H2.size) [none], rfl, ⟨c, C, .slice (some ⟨H2.size, 0, none⟩) 1 1, some H2.size, [none],
    ⟨own_new_eq (by simp only [size_new]), (c1.fresh f2).fresh f3, ?_, fun h R hR => ?_, fun h => by have := hcs _ h; omega, fun b hb => ?_, fun h R hR => ?_, fun h h' R R' hR => ?_⟩,
    ⟨hf, rfl, fun h => ?_, rfl, fun h R hR => ?_, fun h R hR => ?_, fun h R hR => ?_⟩, fun z => Iff.rfl⟩, fun x hx => ?_⟩)⟩
  · exact (Sl.lit_at (size := 1) (n := 1) (xs := [.pointer none]) rfl rfl).ext ((Ext.refl (fun _ => False) _).new _ _) (fun _ _ h => h)
  · rcases h with _ | h <;> simp at hR
  · injection hb with hb
    subst hb
    exact ⟨by omega, fun h => by have := hcs _ h; omega⟩
  · rcases h with _ | h <;> simp at hR
  · rcases h with _ | h <;> simp at hR
  · rcases h with _ | h <;> simp
  · rcases h with _ | h <;> simp at hR
  · rcases h with _ | h <;> simp at hR
  · rcases h with _ | h <;> simp at hR
  · rcases hx with hx | rfl | hx | ⟨i, R, hR, hx⟩
    · exact hC x hx
    · omega
    · injection hx with hx; omega
    · rcases i with _ | i <;> simp at hR

/-- The nest tells which of two slots in heaps is ahead, and counts that. -/
theorem dary_ord {n c : Nat} {C : Nat → Prop} {rv : Value} {d st : Int} {w : Nw} (hn : ¬ C n) : OrdS (.iface 56 (ptr n)) (fun H k => CellsN H c C (min (st + k) 4611686018427387904) w ∧ H.own n = some [ptr c, i64 d, rv])
    (fun x => C x ∨ x = n) (ltW w) (InC w.cs) := by
  refine ⟨fun H k a b ha hb h => ⟨_, _, n_cells_Cells_Ahead, ptr c, rfl, methR1 (off := 0) (by kernel_rfl) (rd_of_own h.2) rfl, (cellsN_Ahead_spec h.1 a b).mono ?_⟩, nilP1 (x := (0, n_cells_Cells_Ahead)) (by kernel_rfl), fun H H' k U h e hd => ?_, fun H k h x hx => ?_⟩
  · rintro v H' ⟨rfl, h1, e⟩
    rw [if_pos ⟨ha, hb⟩] at h1
    have hs : stepsI (min (st + (k : Nat)) 4611686018427387904) 1 = min (st + ((k + 1 : Nat) : Int)) 4611686018427387904 := by
      unfold stepsI
      rw [if_neg (by omega)]
      split <;> omega
    rw [hs] at h1
    exact ⟨by rw [ltW_ahead ha hb], ⟨h1, e.own h.2 hn⟩, e.mono fun z _ hz => .inl hz⟩
  · exact ⟨h.1.ext e (fun x hx => hd x (.inl hx)), e.own h.2 (hd n (.inr rfl))⟩
  · rcases hx with hx | rfl
    · exact h.1.slt x hx
    · exact own_lt h.2

theorem CellsN.hsl {H : Hp} {c : Nat} {S : Nat → Prop} {st : Int} {w : Nw} (h : CellsN H c S st w) : w.hs.length ≤ 65537 := by
  obtain ⟨cs, len, rt, many, ⟨⟨fb, nb, ns, mb, _, _, g, _⟩, _⟩, h2⟩ := h
  have := g.le
  rw [h2.hl]
  omega
theorem CellsN.home {H : Hp} {c : Nat} {S : Nat → Prop} {st : Int} {w : Nw} (h : CellsN H c S st w) : ∀ x ∈ w.cs, 0 ≤ x.1 ∧ x.1 < w.hs.length := by
  obtain ⟨cs, len, rt, many, h1, h2⟩ := h
  intro x hx
  rw [h2.cl] at hx
  obtain ⟨y, hy, rfl⟩ := List.mem_map.1 hx
  have h3 := h2.lt y hy
  rw [h2.hl]
  have h4 := h2.low y.1.toNat (by omega)
  have h5 : 0 < len := by
    have := (List.getElem?_eq_some_iff.1 h2.h0).1
    rw [h2.hl] at this
    exact this
  simp only
  split <;> omega

theorem dary_Make_spec {H : Hp} {n : Nat} {S : Nat → Prop} {d st : Int} {w : Nw} (h : DaryAt H n S d st w) : CallH Try.prog n_dary_Nest_Make [ptr n] H fun v H' => Post (
    (w.hs.length = 65537 ∧ v = i64 0 ∧ H = H') ∨
    (w.hs.length ≠ 65537 ∧ v = i64 w.hs.length ∧ ∃ S', DaryAt H' n S' d st w.make ∧ Ext S H H' ∧ ∀ x, S' x → S x ∨ H.size ≤ x)) := by
  obtain ⟨c, C, rv, fp, rs, m, l, hS⟩ := h
  refine c_dary_Nest_Make ⟨rfl, ?_⟩
  simp (disch := (first | omega | (simp only [size_new, size_newm, size_wr, size_wrm] <;> omega) | fail)) only [go_sem, Nat.reduceBEq, Nat.reduceAdd, Nat.reduceMul, Nat.reduceLeDiff, ↓reduceIte, rd_new_lt, own_new_lt, mp_new_lt, rd_newm_lt, own_newm_lt, mp_newm_lt, rd_wr_ne, own_wr_ne, mp_wr_ne, rd_wrm_ne, own_wrm_ne, mp_wrm_ne, rd_new_eq, own_new_eq, mp_newm_eq, s_dary_Nest_Make, rd_of_own m.own]
  refine (cellsN_Make_spec m.cells).mono ?_
  rintro _ H1 (⟨h1, rfl, rfl⟩ | ⟨h1, rfl, C', c1, e1, hC'⟩)
  · simp (disch := (first | omega | (simp only [size_new, size_newm, size_wr, size_wrm] <;> omega) | fail)) only [go_sem, Nat.reduceBEq, Nat.reduceAdd, Nat.reduceMul, Nat.reduceLeDiff, ↓reduceIte, rd_new_lt, own_new_lt, mp_new_lt, rd_newm_lt, own_newm_lt, mp_newm_lt, rd_wr_ne, own_wr_ne, mp_wr_ne, rd_wrm_ne, own_wrm_ne, mp_wrm_ne, rd_new_eq, own_new_eq, mp_newm_eq]
    exact .inl ⟨h1, rfl, rfl⟩
  have hpos : 0 < rs.length := (List.getElem?_eq_some_iff.1 l.h0).1
  have hll := l.hl
  have o1 := e1.own m.own m.nC
  simp (disch := (first | omega | (simp only [size_new, size_newm, size_wr, size_wrm] <;> omega) | fail)) only [go_sem, Nat.reduceBEq, Nat.reduceAdd, Nat.reduceMul, Nat.reduceLeDiff, ↓reduceIte, rd_new_lt, own_new_lt, mp_new_lt, rd_newm_lt, own_newm_lt, mp_newm_lt, rd_wr_ne, own_wr_ne, mp_wr_ne, rd_wrm_ne, own_wrm_ne, mp_wrm_ne, rd_new_eq, own_new_eq, mp_newm_eq]
  refine Both.of_true (decide_eq_true (by omega)) ?_
  simp (disch := (first | omega | (simp only [size_new, size_newm, size_wr, size_wrm] <;> omega) | fail)) only [go_sem, Nat.reduceBEq, Nat.reduceAdd, Nat.reduceMul, Nat.reduceLeDiff, ↓reduceIte, rd_new_lt, own_new_lt, mp_new_lt, rd_newm_lt, own_newm_lt, mp_newm_lt, rd_wr_ne, own_wr_ne, mp_wr_ne, rd_wrm_ne, own_wrm_ne, mp_wrm_ne, rd_new_eq, own_new_eq, mp_newm_eq, rd_of_own o1]
  refine (sift_New_spec d H1).mono ?_
  rintro _ H2 ⟨f2, ⟨hf, _⟩ | ⟨_, r, Sr, rfl, r2, hSr⟩⟩
  · exact absurd l.fine hf
  have o2 := f2.own o1 (fun h => h)
  simp (disch := (first | omega | (simp only [size_new, size_newm, size_wr, size_wrm] <;> omega) | fail)) only [go_sem, Nat.reduceBEq, Nat.reduceAdd, Nat.reduceMul, Nat.reduceLeDiff, ↓reduceIte, rd_new_lt, own_new_lt, mp_new_lt, rd_newm_lt, own_newm_lt, mp_newm_lt, rd_wr_ne, own_wr_ne, mp_wr_ne, rd_wrm_ne, own_wrm_ne, mp_wrm_ne, rd_new_eq, own_new_eq, mp_newm_eq, rd_of_own o2]
  have hsl := m.cells.hsl
  have hslt := m.slt
  have hcs1 := c1.slt
  have hr2 := r2.slt
  have z1 := e1.size
  have z2 := f2.size
  have e0 : Ext (fun _ => False) H2 (H2.new 92 [ptr r]) := (Ext.refl _ _).new _ _
  have sl2 := (m.sl.ext e1 (fun b hb h => (m.fpd b hb).2 h)).ext f2 (fun _ _ h => h)
  refine Sl.append (sl2.ext e0 (fun _ _ h => h)) (Sl.lit_at (size := 1) (xs := [ptr r]) rfl rfl).rd rfl (by intro v hv; simp only [List.mem_singleton] at hv; subst hv; rfl) (by omega) ?_
  intro v' H3 fp' s3 e3 hfp
  have o3 := e3.own (e0.own o2 (fun h => h)) (fun e => (m.fpd n e).1 rfl)
  obtain ⟨a', cc', hv'⟩ := RdS.val2 s3.rd
  subst hv'
  simp (disch := (first | omega | (simp only [size_new, size_newm, size_wr, size_wrm] <;> omega) | fail)) only [go_sem, Nat.reduceBEq, Nat.reduceAdd, Nat.reduceMul, Nat.reduceLeDiff, ↓reduceIte, rd_new_lt, own_new_lt, mp_new_lt, rd_newm_lt, own_newm_lt, mp_newm_lt, rd_wr_ne, own_wr_ne, mp_wr_ne, rd_wrm_ne, own_wrm_ne, mp_wrm_ne, rd_new_eq, own_new_eq, mp_newm_eq, o3]
  generalize hv' : Value.slice a' (rs.length + 1) cc' = v' at *
  have e4 : Ext (fun z => z = n) H3 (H3.wr n [ptr c, i64 d, v']) := (Ext.refl (fun z => z = n) _).wr (fun _ => rfl) _
  have hn := own_lt m.own
  have hfpl : ∀ b, fp = some b → b < H.size := fun b hb => hslt b (.inr (.inr (.inl hb)))
  have hCl : ∀ z, C z → z < H.size := fun z hz => hslt z (.inl hz)
  have hfp2 : ∀ b, fp' = some b → fp = some b ∨ H2.size ≤ b := fun b hb => by
    rcases hfp with h | ⟨z, h, h5, _⟩
    · exact .inl (h ▸ hb)
    · rw [h] at hb; injection hb with hb; subst hb; rw [size_new] at h5; exact .inr (by omega)
  have hC1 : ∀ z, C' z → C z ∨ H.size ≤ z := hC'
  have e03 : Ext (fun z => fp = some z) H2 H3 := (e0.mono fun _ _ h => h.elim).trans' e3 (fun z _ h => h)
  have hget : ∀ (h : Nat) R, (rs ++ [some (⟨r, Sr, [], fun _ => none⟩ : Rw)])[h]? = some (some R) → rs[h]? = some (some R) ∨ (h = rs.length ∧ R = ⟨r, Sr, [], fun _ => none⟩) := fun h R hR => by
    rcases Nat.lt_trichotomy h rs.length with h5 | h5 | h5
    · rw [List.getElem?_append_left h5] at hR; exact .inl hR
    · subst h5
      rw [List.getElem?_append_right (Nat.le_refl _), Nat.sub_self] at hR
      simp only [List.getElem?_cons_zero, Option.some.injEq] at hR
      exact .inr ⟨rfl, hR.symm⟩
    · rw [List.getElem?_eq_none (by rw [List.length_append, List.length_singleton]; omega)] at hR
      cases hR
  have hold : ∀ (h : Nat) R, rs[h]? = some (some R) → ∀ x, R.S x → ¬ C x ∧ x ≠ n ∧ fp ≠ some x ∧ x < H.size := fun h R hR x hx =>
    ⟨(m.rowd h R hR x hx).1, (m.rowd h R hR x hx).2.1, (m.rowd h R hR x hx).2.2, hslt x (.inr (.inr (.inr ⟨h, R, hR, hx⟩)))⟩
  have hcw : ∀ (x : Nat) (e : Int × Int), w.cs[x]? ≠ some (((rs.length : Nat) : Int), e) := fun x e hx => by
    have := (m.cells.home _ (List.mem_of_getElem? hx)).2
    simp only at this
    omega
  refine .inr ⟨h1, rfl, DaryS n C' fp' (rs ++ [some ⟨r, Sr, [], fun _ => none⟩]), ⟨c, C', v', fp', rs ++ [some ⟨r, Sr, [], fun _ => none⟩],
    ⟨own_wr_same o3, ?_, ?_, fun h R hR => ?_, fun h => ?_, fun b hb => ⟨?_, fun h => ?_⟩, fun h R hR x hx => ⟨fun h => ?_, ?_, fun h => ?_⟩, fun h h' R R' hR hR' hne x hx hx' => ?_⟩,
    ⟨l.fine, ?_, fun h => ?_, ?_, fun h R hR => ?_, fun h R hR x => ?_, fun h R hR => ?_⟩, fun z => Iff.rfl⟩, ?_, fun x hx => ?_⟩
  · exact (((c1.ext f2 (fun _ _ h => h)).ext e03 (fun x hx e => by
      rcases hC1 x hx with h | h
      · exact (m.fpd x e).2 h
      · have := hfpl x e; omega)).ext e4 (fun x hx e => by
      rcases hC1 x hx with h | h
      · exact m.nC (e ▸ h)
      · omega))
  · have := s3.ext e4 (fun b hb e => by
      rcases hfp2 b hb with h | h
      · exact (m.fpd b h).1 e
      · omega)
    rw [List.length_append, List.map_append]
    exact this
  · rcases hget h R hR with h5 | ⟨rfl, rfl⟩
    · exact ((((m.row h R h5).ext e1 (fun x hx => (hold h R h5 x hx).1)).ext f2 (fun _ _ h => h)).ext e03 (fun x hx => (hold h R h5 x hx).2.2.1)).ext e4 (fun x hx => (hold h R h5 x hx).2.1)
    · exact (r2.ext e03 (fun x hx e => by have := hSr x hx; have := hfpl x e; omega)).ext e4 (fun x hx e => by have := hSr x hx; omega)
  · rcases hC1 n h with h | h
    · exact m.nC h
    · omega
  · rcases hfp2 b hb with h | h
    · exact (m.fpd b h).1
    · omega
  · rcases hfp2 b hb with h5 | h5
    · rcases hC1 b h with h6 | h6
      · exact (m.fpd b h5).2 h6
      · have := hfpl b h5; omega
    · have := hcs1 b h; omega
  · rcases hget _ R hR with h5 | ⟨_, rfl⟩
    · rcases hC1 x h with h6 | h6
      · exact (hold _ R h5 x hx).1 h6
      · have := (hold _ R h5 x hx).2.2.2; omega
    · have := hSr x hx; have := hcs1 x h; omega
  · rcases hget _ R hR with h5 | ⟨_, rfl⟩
    · exact (hold _ R h5 x hx).2.1
    · have := hSr x hx; omega
  · rcases hget _ R hR with h5 | ⟨_, rfl⟩
    · rcases hfp2 x h with h6 | h6
      · exact (hold _ R h5 x hx).2.2.1 h6
      · have := (hold _ R h5 x hx).2.2.2; omega
    · have h7 := hr2 x hx
      rcases hfp2 x h with h6 | h6
      · have := hSr x hx; have := hfpl x h6; omega
      · omega
  · rcases hget _ R hR with h5 | ⟨h5, rfl⟩
    · rcases hget _ R' hR' with h6 | ⟨h6, rfl⟩
      · exact m.rowrow h h' R R' h5 h6 hne x hx hx'
      · have := hSr x hx'; have := (hold _ R h5 x hx).2.2.2; omega
    · rcases hget _ R' hR' with h6 | ⟨h6, rfl⟩
      · have := hSr x hx; have := (hold _ R' h6 x hx').2.2.2; omega
      · omega
  · simp [Nw.make, hll]
  · show (w.hs ++ [true])[h]? = some true ↔ _
    rcases Nat.lt_trichotomy h rs.length with h5 | h5 | h5
    · rw [List.getElem?_append_left h5, List.getElem?_append_left (by omega)]
      exact l.hs h
    · subst h5
      rw [List.getElem?_append_right (Nat.le_refl _), List.getElem?_append_right (by omega), Nat.sub_self, hll, Nat.sub_self]
      simp
    · rw [List.getElem?_eq_none (by rw [List.length_append, List.length_singleton]; omega), List.getElem?_eq_none (by rw [List.length_append, List.length_singleton]; omega)]
      simp
  · rw [List.getElem?_append_left hpos]; exact l.h0
  · rcases hget h R hR with h5 | ⟨rfl, rfl⟩
    · exact l.ok h R h5
    · exact HeapOn.nil _ _
  · rcases hget h R hR with h5 | ⟨rfl, rfl⟩
    · exact l.mem h R h5 x
    · simp only [List.not_mem_nil, false_iff]
      rintro ⟨_, e, he⟩
      exact hcw _ _ he
  · rcases hget h R hR with h5 | ⟨rfl, rfl⟩
    · exact l.len h R h5
    · show ((0 : Nat) : Int) = w.len _
      unfold Nw.len
      rw [if_pos (by omega), List.countP_eq_zero.2 (fun x hx => by
        have := (m.cells.home x hx).2
        simp only [decide_eq_true_eq]
        omega)]
  · exact ((e1.mono fun z _ hz => (hS z).1 (.inl hz)).trans ((f2.mono fun _ _ h => h.elim).trans (e03.mono fun z _ hz => (hS z).1 (.inr (.inr (.inl hz)))))).trans (e4.mono fun z _ hz => (hS z).1 (.inr (.inl hz)))
  · rcases hx with hx | rfl | hx | ⟨i, R, hR, hx⟩
    · rcases hC1 x hx with h | h
      · exact .inl ((hS x).1 (.inl h))
      · exact .inr h
    · exact .inl ((hS x).1 (.inr (.inl rfl)))
    · rcases hfp2 x hx with h | h
      · exact .inl ((hS x).1 (.inr (.inr (.inl h))))
      · exact .inr (by omega)
    · rcases hget _ R hR with h5 | ⟨_, rfl⟩
      · exact .inl ((hS x).1 (.inr (.inr (.inr ⟨i, R, h5, hx⟩))))
      · have := hSr x hx; exact .inr (by omega)

theorem DaryL.hasR {d : Int} {w : Nw} {rs : List (Option Rw)} (l : DaryL d w rs) {g : Int} (h : w.has g) : ∃ R, rs[g.toNat]? = some (some R) := (l.hs g.toNat).1 h.2

theorem dary_Min_spec {H : Hp} {n : Nat} {S : Nat → Prop} {d st : Int} {w : Nw} (h : DaryAt H n S d st w) (g : Int) : CallH Try.prog n_dary_Nest_Min [ptr n, i64 g] H fun v H' => Post (
    ((¬ w.has g ∧ v = .tuple [i64 0, .bool false].toArray) ∨ (w.has g ∧ w.len g = 0 ∧ v = .tuple [i64 0, .bool false].toArray) ∨
      (w.has g ∧ ∃ x, InC w.cs x ∧ (∃ e, w.cs[x.toNat]? = some (g, e)) ∧ v = .tuple [i64 x, .bool true].toArray ∧ ∀ y, 0 ≤ y → (∃ e, w.cs[y.toNat]? = some (g, e)) → y ≠ x → ltW w x y = true)) ∧ H = H') := by
  obtain ⟨c, C, rv, fp, rs, m, l, hS⟩ := h
  refine c_dary_Nest_Min ⟨rfl, ?_⟩
  simp (disch := (first | omega | (simp only [size_new, size_newm, size_wr, size_wrm] <;> omega) | fail)) only [go_sem, Nat.reduceBEq, Nat.reduceAdd, Nat.reduceMul, Nat.reduceLeDiff, ↓reduceIte, rd_new_lt, own_new_lt, mp_new_lt, rd_newm_lt, own_newm_lt, mp_newm_lt, rd_wr_ne, own_wr_ne, mp_wr_ne, rd_wrm_ne, own_wrm_ne, mp_wrm_ne, rd_new_eq, own_new_eq, mp_newm_eq, s_dary_Nest_Min, rd_of_own m.own]
  refine (cellsN_Has_spec m.cells g).mono ?_
  rintro _ _ ⟨rfl, rfl⟩
  simp (disch := (first | omega | (simp only [size_new, size_newm, size_wr, size_wrm] <;> omega) | fail)) only [go_sem, Nat.reduceBEq, Nat.reduceAdd, Nat.reduceMul, Nat.reduceLeDiff, ↓reduceIte, rd_new_lt, own_new_lt, mp_new_lt, rd_newm_lt, own_newm_lt, mp_newm_lt, rd_wr_ne, own_wr_ne, mp_wr_ne, rd_wrm_ne, own_wrm_ne, mp_wrm_ne, rd_new_eq, own_new_eq, mp_newm_eq]
  refine Both.dec (fun hh => ?_) (fun hh => ?_)
  · obtain ⟨R, hR⟩ := l.hasR hh
    have h1 := hh.1
    have hlt := (List.getElem?_eq_some_iff.1 hR).1
    obtain ⟨b, o, c', lb, e1, e2, e3, e4⟩ := RdS.get m.sl.rd (i := g.toNat) (j := 0) (x := ptr R.r) (by omega) (by simp [hR, rwV])
    subst e1
    have hgg : ((g.toNat : Nat) : Int) = g := by omega
    simp (disch := (first | omega | (simp only [size_new, size_newm, size_wr, size_wrm] <;> omega) | fail)) only [go_sem, Nat.reduceBEq, Nat.reduceAdd, Nat.reduceMul, Nat.reduceLeDiff, ↓reduceIte, rd_new_lt, own_new_lt, mp_new_lt, rd_newm_lt, own_newm_lt, mp_newm_lt, rd_wr_ne, own_wr_ne, mp_wr_ne, rd_wrm_ne, own_wrm_ne, mp_wrm_ne, rd_new_eq, own_new_eq, mp_newm_eq, rd_of_own m.own]
    refine ⟨by omega, ?_⟩
    simp (disch := (first | omega | (simp only [size_new, size_newm, size_wr, size_wrm] <;> omega) | fail)) only [go_sem, Nat.reduceBEq, Nat.reduceAdd, Nat.reduceMul, Nat.reduceLeDiff, ↓reduceIte, rd_new_lt, own_new_lt, mp_new_lt, rd_newm_lt, own_newm_lt, mp_newm_lt, rd_wr_ne, own_wr_ne, mp_wr_ne, rd_wrm_ne, own_wrm_ne, mp_wrm_ne, rd_new_eq, own_new_eq, mp_newm_eq, e2, show lb[o + g.toNat * 1]? = some (ptr R.r) from e4]
    refine (sift_At_spec (m.row _ R hR) 0).mono ?_
    rintro _ _ ⟨rfl, rfl⟩
    have hmem := l.mem _ R hR
    rw [hgg] at hmem
    have hlen := l.len _ R hR
    rw [hgg] at hlen
    rw [show (if (0 : Int) ≤ 0 then R.l[Int.toNat 0]? else none) = R.l[0]? from rfl, twoF_eq]
    cases h0 : R.l[0]? with
    | none =>
      have : R.l.length = 0 := by
        rcases Nat.eq_zero_or_pos R.l.length with h | h
        · exact h
        · rw [List.getElem?_eq_getElem h] at h0; cases h0
      simp (disch := (first | omega | (simp only [size_new, size_newm, size_wr, size_wrm] <;> omega) | fail)) only [go_sem, Nat.reduceBEq, Nat.reduceAdd, Nat.reduceMul, Nat.reduceLeDiff, ↓reduceIte, rd_new_lt, own_new_lt, mp_new_lt, rd_newm_lt, own_newm_lt, mp_newm_lt, rd_wr_ne, own_wr_ne, mp_wr_ne, rd_wrm_ne, own_wrm_ne, mp_wrm_ne, rd_new_eq, own_new_eq, mp_newm_eq, Option.isSome_none, Option.getD_none]
      exact ⟨.inr (.inl ⟨hh, by omega, rfl⟩), rfl⟩
    | some x =>
      simp (disch := (first | omega | (simp only [size_new, size_newm, size_wr, size_wrm] <;> omega) | fail)) only [go_sem, Nat.reduceBEq, Nat.reduceAdd, Nat.reduceMul, Nat.reduceLeDiff, ↓reduceIte, rd_new_lt, own_new_lt, mp_new_lt, rd_newm_lt, own_newm_lt, mp_newm_lt, rd_wr_ne, own_wr_ne, mp_wr_ne, rd_wrm_ne, own_wrm_ne, mp_wrm_ne, rd_new_eq, own_new_eq, mp_newm_eq, Option.isSome_some, Option.getD_some]
      obtain ⟨x0, e, he⟩ := (hmem x).1 (List.mem_of_getElem? h0)
      refine ⟨.inr (.inr ⟨hh, x, ⟨x0, _, he, by simp only; omega⟩, ⟨e, he⟩, rfl, fun y hy0 hy hne => ?_⟩), rfl⟩
      exact HeapOn.least (ltW_strict w) l.fine (l.ok _ R hR) h0 y ((hmem y).2 ⟨hy0, hy⟩) hne
  · simp (disch := (first | omega | (simp only [size_new, size_newm, size_wr, size_wrm] <;> omega) | fail)) only [go_sem, Nat.reduceBEq, Nat.reduceAdd, Nat.reduceMul, Nat.reduceLeDiff, ↓reduceIte, rd_new_lt, own_new_lt, mp_new_lt, rd_newm_lt, own_newm_lt, mp_newm_lt, rd_wr_ne, own_wr_ne, mp_wr_ne, rd_wrm_ne, own_wrm_ne, mp_wrm_ne, rd_new_eq, own_new_eq, mp_newm_eq]
    exact ⟨.inl ⟨hh, rfl⟩, rfl⟩

theorem dary_Depth_spec {H : Hp} {n : Nat} {S : Nat → Prop} {d st : Int} {w : Nw} (h : DaryAt H n S d st w) (g : Int) : CallH Try.prog n_dary_Nest_Depth [ptr n, i64 g] H fun v H' => Post (v = i64 (depthF d (w.len g)) ∧ H = H') := by
  obtain ⟨c, C, rv, fp, rs, m, l, hS⟩ := h
  refine c_dary_Nest_Depth ⟨rfl, ?_⟩
  simp (disch := (first | omega | (simp only [size_new, size_newm, size_wr, size_wrm] <;> omega) | fail)) only [go_sem, Nat.reduceBEq, Nat.reduceAdd, Nat.reduceMul, Nat.reduceLeDiff, ↓reduceIte, rd_new_lt, own_new_lt, mp_new_lt, rd_newm_lt, own_newm_lt, mp_newm_lt, rd_wr_ne, own_wr_ne, mp_wr_ne, rd_wrm_ne, own_wrm_ne, mp_wrm_ne, rd_new_eq, own_new_eq, mp_newm_eq, s_dary_Nest_Depth, rd_of_own m.own]
  refine ⟨_, (cellsN_Len_spec m.cells g).mono (fun v H' h => ⟨h.1, h.2.symm⟩), ?_⟩
  refine (sift_Depth_spec d (w.len g) H).mono ?_
  rintro _ _ ⟨rfl, rfl⟩
  simp (disch := (first | omega | (simp only [size_new, size_newm, size_wr, size_wrm] <;> omega) | fail)) only [go_sem, Nat.reduceBEq, Nat.reduceAdd, Nat.reduceMul, Nat.reduceLeDiff, ↓reduceIte, rd_new_lt, own_new_lt, mp_new_lt, rd_newm_lt, own_newm_lt, mp_newm_lt, rd_wr_ne, own_wr_ne, mp_wr_ne, rd_wrm_ne, own_wrm_ne, mp_wrm_ne, rd_new_eq, own_new_eq, mp_newm_eq]
  exact ⟨rfl, rfl⟩

theorem dary_Degree_spec {H : Hp} {n : Nat} {S : Nat → Prop} {d st : Int} {w : Nw} (h : DaryAt H n S d st w) : CallH Try.prog n_dary_Nest_Degree [ptr n] H fun v H' => Post (v = i64 d ∧ H = H') := by
  obtain ⟨c, C, rv, fp, rs, m, l, hS⟩ := h
  refine c_dary_Nest_Degree ⟨rfl, ?_⟩
  simp (disch := (first | omega | (simp only [size_new, size_newm, size_wr, size_wrm] <;> omega) | fail)) only [go_sem, Nat.reduceBEq, Nat.reduceAdd, Nat.reduceMul, Nat.reduceLeDiff, ↓reduceIte, rd_new_lt, own_new_lt, mp_new_lt, rd_newm_lt, own_newm_lt, mp_newm_lt, rd_wr_ne, own_wr_ne, mp_wr_ne, rd_wrm_ne, own_wrm_ne, mp_wrm_ne, rd_new_eq, own_new_eq, mp_newm_eq, s_dary_Nest_Degree, rd_of_own m.own]
  exact ⟨rfl, rfl⟩

/-- A nest in memory whose one row is another one. -/
theorem DaryM.setRow {H H' : Hp} {n c : Nat} {C T : Nat → Prop} {rv : Value} {fp : Option Nat} {d st st' : Int} {w w' : Nw} {rs : List (Option Rw)} (m : DaryM H n c C rv fp d st w rs) {g : Nat} {R R' : Rw} (hR : rs[g]? = some (some R)) (hr : R'.r = R.r)
    (row : RowAt H' R'.r R'.S d R'.l R'.pl) (hRS : ∀ z, R'.S z → R.S z ∨ H.size ≤ z) (e : Ext T H H') (hT : ∀ z, T z → C z ∨ R.S z ∨ z = n) (cells : CellsN H' c C st' w') (own : H'.own n = some [ptr c, i64 d, rv]) :
    DaryM H' n c C rv fp d st' w' (rs.set g (some R')) := by
  have hslt := m.slt
  have hg := (List.getElem?_eq_some_iff.1 hR).1
  have hget : ∀ (h : Nat) Q, (rs.set g (some R'))[h]? = some (some Q) → (h = g ∧ Q = R') ∨ (h ≠ g ∧ rs[h]? = some (some Q)) := fun h Q hQ => by
    by_cases hh : h = g
    · subst hh
      rw [List.getElem?_set_self hg] at hQ
      simp only [Option.some.injEq] at hQ
      exact .inl ⟨rfl, hQ.symm⟩
    · rw [List.getElem?_set_ne (Ne.symm hh)] at hQ
      exact .inr ⟨hh, hQ⟩
  refine ⟨own, cells, ?_, fun h Q hQ => ?_, m.nC, m.fpd, fun h Q hQ x hx => ?_, fun h h' Q Q' hQ hQ' hne x hx hx' => ?_⟩
  · have h1 : (rs.set g (some R')).map rwV = rs.map rwV := by
      rw [List.map_set]
      refine List.ext_getElem? fun i => ?_
      by_cases hi : i = g
      · subst hi
        rw [List.getElem?_set_self (by rw [List.length_map]; exact hg), List.getElem?_map, hR]
        simp [rwV, hr]
      · rw [List.getElem?_set_ne (Ne.symm hi)]
    rw [h1, List.length_set]
    exact m.sl.ext e (fun b hb ht => by
      rcases hT b ht with h | h | h
      · exact (m.fpd b hb).2 h
      · exact (m.rowd _ R hR b h).2.2 hb
      · exact (m.fpd b hb).1 h)
  · rcases hget h Q hQ with ⟨rfl, rfl⟩ | ⟨h1, h2⟩
    · exact row
    · exact (m.row h Q h2).ext e (fun x hx ht => by
        rcases hT x ht with h3 | h3 | h3
        · exact (m.rowd h Q h2 x hx).1 h3
        · exact m.rowrow h g Q R h2 hR h1 x hx h3
        · exact (m.rowd h Q h2 x hx).2.1 h3)
  · rcases hget h Q hQ with ⟨rfl, rfl⟩ | ⟨h1, h2⟩
    · rcases hRS x hx with h3 | h3
      · exact m.rowd _ R hR x h3
      · refine ⟨fun hc => ?_, fun hc => ?_, fun hc => ?_⟩
        · have := hslt x (.inl hc); omega
        · have := hslt n (.inr (.inl rfl)); omega
        · have := hslt x (.inr (.inr (.inl hc))); omega
    · exact m.rowd h Q h2 x hx
  · rcases hget h Q hQ with ⟨rfl, rfl⟩ | ⟨h1, h2⟩
    · rcases hget h' Q' hQ' with ⟨rfl, rfl⟩ | ⟨h3, h4⟩
      · exact hne rfl
      · rcases hRS x hx with h5 | h5
        · exact m.rowrow _ h' R Q' hR h4 hne x h5 hx'
        · have := hslt x (.inr (.inr (.inr ⟨h', Q', h4, hx'⟩))); omega
    · rcases hget h' Q' hQ' with ⟨rfl, rfl⟩ | ⟨h3, h4⟩
      · rcases hRS x hx' with h5 | h5
        · exact m.rowrow h _ Q R h2 hR hne x hx h5
        · have := hslt x (.inr (.inr (.inr ⟨h, Q, h2, hx⟩))); omega
      · exact m.rowrow h h' Q Q' h2 h4 hne x hx hx'

theorem upM_pos (lt : Int → Int → Bool) {d : Int} (hf : FineD d) (x : Int) {m : Nat} (l : List Int) (pl : Int → Option Int) {i : Int} (hi : 1 ≤ i) (hm : i.toNat ≤ m) : 0 < (upM lt d x m l pl i).asked := by
  obtain ⟨q, rfl⟩ : ∃ q, m = q + 1 := ⟨m - 1, by omega⟩
  have hp : parentF d i = some ((i - 1) / d) := by unfold parentF; rw [if_pos ⟨hf, hi⟩]
  simp only [upM, hp]
  split <;> simp

theorem dary_Insert_spec {H : Hp} {n : Nat} {S : Nat → Prop} {d st : Int} {w : Nw} (h : DaryAt H n S d st w) (g x k s : Int) : CallH Try.prog n_dary_Nest_Insert [ptr n, i64 g, i64 x, ent k s] H fun v H' => Post (
    (¬ (w.has g ∧ (0 ≤ x ∧ x < w.cs.length) ∧ ¬ InC w.cs x) ∧ v = .bool false ∧ DaryAt H' n S d st w ∧ Ext S H H') ∨
    ((w.has g ∧ (0 ≤ x ∧ x < w.cs.length) ∧ ¬ InC w.cs x) ∧ v = .bool true ∧ ∃ (S' : Nat → Prop) (q : Nat), (q : Int) ≤ upN d (w.len g).toNat ∧ (0 < w.len g → 0 < q) ∧ DaryAt H' n S' d (min (st + q) 4611686018427387904) (w.put x (g, k, s)) ∧ Ext S H H' ∧ ∀ z, S' z → S z ∨ H.size ≤ z)) := by
  obtain ⟨c, C, rv, fp, rs, m, l, hS⟩ := h
  refine c_dary_Nest_Insert ⟨rfl, ?_⟩
  simp (disch := (first | omega | (simp only [size_new, size_newm, size_wr, size_wrm] <;> omega) | fail)) only [go_sem, Nat.reduceBEq, Nat.reduceAdd, Nat.reduceMul, Nat.reduceLeDiff, ↓reduceIte, rd_new_lt, own_new_lt, mp_new_lt, rd_newm_lt, own_newm_lt, mp_newm_lt, rd_wr_ne, own_wr_ne, mp_wr_ne, rd_wrm_ne, own_wrm_ne, mp_wrm_ne, rd_new_eq, own_new_eq, mp_newm_eq, s_dary_Nest_Insert]
  have f0 : Fresh H (H.new 70 [i64 k, u64 s]) := (Ext.refl _ _).new _ _
  have b0 : (H.new 70 [i64 k, u64 s]).own H.size = some [i64 k, u64 s] := own_new _ _ _
  have m0 := m.ext f0 (fun _ _ h => h)
  generalize H.new 70 [i64 k, u64 s] = H0 at *
  simp (disch := (first | omega | (simp only [size_new, size_newm, size_wr, size_wrm] <;> omega) | fail)) only [go_sem, Nat.reduceBEq, Nat.reduceAdd, Nat.reduceMul, Nat.reduceLeDiff, ↓reduceIte, rd_new_lt, own_new_lt, mp_new_lt, rd_newm_lt, own_newm_lt, mp_newm_lt, rd_wr_ne, own_wr_ne, mp_wr_ne, rd_wrm_ne, own_wrm_ne, mp_wrm_ne, rd_new_eq, own_new_eq, mp_newm_eq, rd_of_own m0.own, rd_of_own b0]
  refine (cellsN_Put_spec m0.cells g x k s).mono ?_
  rintro _ H1 (⟨hno, rfl, c1, e1⟩ | ⟨hyes, rfl, c1, e1⟩)
  · simp (disch := (first | omega | (simp only [size_new, size_newm, size_wr, size_wrm] <;> omega) | fail)) only [go_sem, Nat.reduceBEq, Nat.reduceAdd, Nat.reduceMul, Nat.reduceLeDiff, ↓reduceIte, rd_new_lt, own_new_lt, mp_new_lt, rd_newm_lt, own_newm_lt, mp_newm_lt, rd_wr_ne, own_wr_ne, mp_wr_ne, rd_wrm_ne, own_wrm_ne, mp_wrm_ne, rd_new_eq, own_new_eq, mp_newm_eq]
    refine .inl ⟨hno, rfl, ⟨c, C, rv, fp, rs, ?_, l, hS⟩, (f0.mono fun _ _ h => h.elim).trans (e1.mono fun z _ hz => (hS z).1 (.inl hz))⟩
    exact ⟨e1.own m0.own m.nC, c1, m0.sl.ext e1 (fun b hb h => (m.fpd b hb).2 h), fun i R hR => (m0.row i R hR).ext e1 (fun x hx => (m.rowd i R hR x hx).1), m.nC, m.fpd, m.rowd, m.rowrow⟩
  · obtain ⟨hh, ⟨hx0, hx1⟩, hin⟩ := id hyes
    obtain ⟨R, hR⟩ := l.hasR hh
    have h1 := hh.1
    have hgg : ((g.toNat : Nat) : Int) = g := by omega
    have hmem := l.mem _ R hR
    have hlen := l.len _ R hR
    rw [hgg] at hmem hlen
    obtain ⟨c0, hc0⟩ : ∃ c0, w.cs[x.toNat]? = some c0 := ⟨_, List.getElem?_eq_getElem (by omega)⟩
    have hc1 : ¬ 0 < c0.1 := fun h => hin ⟨hx0, c0, hc0, h⟩
    have hput : (w.put x (g, k, s)).cs[x.toNat]? = some (g, k, s) := List.getElem?_set_self (by omega)
    have hput2 : ∀ y : Nat, y ≠ x.toNat → (w.put x (g, k, s)).cs[y]? = w.cs[y]? := fun y hy => List.getElem?_set_ne (Ne.symm hy)
    have hxno : ∀ (i : Nat) Q, rs[i]? = some (some Q) → x ∉ Q.l := fun i Q hQ hm => by
      obtain ⟨_, e, he⟩ := (l.mem i Q hQ x).1 hm
      rw [hc0] at he
      injection he with he
      subst he
      rcases Nat.eq_zero_or_pos i with hi | hi
      · subst hi; rw [l.h0] at hQ; cases hQ
      · exact hc1 (by simp only; omega)
    have hne : ∀ (i : Nat) Q, rs[i]? = some (some Q) → ∀ y ∈ Q.l, 0 ≤ y ∧ y.toNat ≠ x.toNat := fun i Q hQ y hy => by
      have h2 := ((l.mem i Q hQ y).1 hy).1
      exact ⟨h2, fun e => hxno i Q hQ (by rw [show x = y by omega]; exact hy)⟩
    have hlc : ∀ (i : Nat) Q, rs[i]? = some (some Q) → HeapOn (ltW (w.put x (g, k, s))) d Q.l Q.pl := fun i Q hQ =>
      HeapOn.congr l.fine (l.ok i Q hQ) fun z hz y hy => (ltW_put w x _ (hne i Q hQ z hz).2 (hne i Q hQ y hy).2).symm
    have hInD : ∀ z ∈ R.l, InC (w.put x (g, k, s)).cs z := fun z hz => by
      obtain ⟨z0, e, he⟩ := (hmem z).1 hz
      exact ⟨z0, _, by rw [hput2 _ (hne _ R hR z hz).2]; exact he, by simp only; omega⟩
    have hInx : InC (w.put x (g, k, s)).cs x := ⟨hx0, _, hput, by simp only; omega⟩
    have o1 := e1.own m0.own m.nC
    have hstb := m.cells.st
    have m1 : DaryM H1 n c C rv fp d st (w.put x (g, k, s)) rs := ⟨o1, c1, m0.sl.ext e1 (fun b hb h => (m.fpd b hb).2 h), fun i R hR => (m0.row i R hR).ext e1 (fun x hx => (m.rowd i R hR x hx).1), m.nC, m.fpd, m.rowd, m.rowrow⟩
    have hlt := (List.getElem?_eq_some_iff.1 hR).1
    obtain ⟨b, o, c', lb, q1, q2, q3, q4⟩ := RdS.get m1.sl.rd (i := g.toNat) (j := 0) (x := ptr R.r) (by omega) (by simp [hR, rwV])
    subst q1
    simp (disch := (first | omega | (simp only [size_new, size_newm, size_wr, size_wrm] <;> omega) | fail)) only [go_sem, Nat.reduceBEq, Nat.reduceAdd, Nat.reduceMul, Nat.reduceLeDiff, ↓reduceIte, rd_new_lt, own_new_lt, mp_new_lt, rd_newm_lt, own_newm_lt, mp_newm_lt, rd_wr_ne, own_wr_ne, mp_wr_ne, rd_wrm_ne, own_wrm_ne, mp_wrm_ne, rd_new_eq, own_new_eq, mp_newm_eq, rd_of_own o1]
    refine ⟨by omega, ?_⟩
    simp (disch := (first | omega | (simp only [size_new, size_newm, size_wr, size_wrm] <;> omega) | fail)) only [go_sem, Nat.reduceBEq, Nat.reduceAdd, Nat.reduceMul, Nat.reduceLeDiff, ↓reduceIte, rd_new_lt, own_new_lt, mp_new_lt, rd_newm_lt, own_newm_lt, mp_newm_lt, rd_wr_ne, own_wr_ne, mp_wr_ne, rd_wrm_ne, own_wrm_ne, mp_wrm_ne, rd_new_eq, own_new_eq, mp_newm_eq, q2, show lb[o + g.toNat * 1]? = some (ptr R.r) from q4]
    have hcsl := m.cells.csl
    have hll : R.l.length ≤ 65536 := by have := (w.len_le g).2; omega
    refine (sift_Add_spec (dary_ord (c := c) (rv := .slice (some ⟨b, o, none⟩) rs.length c') (d := d) (st := st) (w := w.put x (g, k, s)) m.nC) (m1.row _ R hR) (fun z hz ht => ?_) (n := 0) ⟨by rw [show min (st + ((0 : Nat) : Int)) 4611686018427387904 = st by omega]; exact c1, o1⟩ x (by omega) hInx hInD).mono ?_
    · rcases ht with ht | ht
      · exact (m.rowd _ R hR z hz).1 ht
      · exact (m.rowd _ R hR z hz).2.1 ht
    rintro _ H2 (⟨hp, _, _⟩ | ⟨hp, rfl, S', r2, ⟨c2, o2⟩, e2, hS'⟩)
    · exact absurd ((HeapOn.mem (l.ok _ R hR) x).2 hp) (hxno _ R hR)
    obtain ⟨p1, p2, p3, p4⟩ := HeapOn.add (ltW_strict (w.put x (g, k, s))) l.fine (hlc _ R hR) hp
    have hq : 0 < R.l.length → 0 < (upM (ltW (w.put x (g, k, s))) d x R.l.length (R.l ++ [x]) R.pl R.l.length).asked := fun h => upM_pos _ l.fine x _ _ (by omega) (by omega)
    generalize hU : upM (ltW (w.put x (g, k, s))) d x R.l.length (R.l ++ [x]) R.pl R.l.length = U at *
    rw [Nat.zero_add] at c2
    simp (disch := (first | omega | (simp only [size_new, size_newm, size_wr, size_wrm] <;> omega) | fail)) only [go_sem, Nat.reduceBEq, Nat.reduceAdd, Nat.reduceMul, Nat.reduceLeDiff, ↓reduceIte, rd_new_lt, own_new_lt, mp_new_lt, rd_newm_lt, own_newm_lt, mp_newm_lt, rd_wr_ne, own_wr_ne, mp_wr_ne, rd_wrm_ne, own_wrm_ne, mp_wrm_ne, rd_new_eq, own_new_eq, mp_newm_eq]
    have hmS : ∀ z, (R.S z ∨ C z ∨ z = n) → S z := fun z hz => (hS z).1 (by
      rcases hz with hz | hz | hz
      · exact .inr (.inr (.inr ⟨_, R, hR, hz⟩))
      · exact .inl hz
      · exact .inr (.inl hz))
    have hget : ∀ (h : Nat) Q, (rs.set g.toNat (some (⟨R.r, S', U.l, U.pl⟩ : Rw)))[h]? = some (some Q) → (h = g.toNat ∧ Q = ⟨R.r, S', U.l, U.pl⟩) ∨ (h ≠ g.toNat ∧ rs[h]? = some (some Q)) := fun h Q hQ => by
      by_cases hh : h = g.toNat
      · subst hh
        rw [List.getElem?_set_self hlt] at hQ
        simp only [Option.some.injEq] at hQ
        exact .inl ⟨rfl, hQ.symm⟩
      · rw [List.getElem?_set_ne (Ne.symm hh)] at hQ
        exact .inr ⟨hh, hQ⟩
    refine .inr ⟨hyes, rfl, DaryS n C fp (rs.set g.toNat (some ⟨R.r, S', U.l, U.pl⟩)), U.asked, ?_, fun h => hq (by omega),
      ⟨c, C, _, fp, rs.set g.toNat (some ⟨R.r, S', U.l, U.pl⟩), m1.setRow hR (R' := ⟨R.r, S', U.l, U.pl⟩) rfl r2 hS' e2 (fun z hz => ?_) c2 o2,
        ⟨l.fine, by rw [List.length_set]; exact l.hl, fun h => ?_, ?_, fun h Q hQ => ?_, fun h Q hQ y => ?_, fun h Q hQ => ?_⟩, fun z => Iff.rfl⟩, ?_, fun z hz => ?_⟩
    · rw [show ((w.len g).toNat : Int) = (R.l.length : Int) by omega]
      exact Int.ofNat_le.2 p4
    · rcases hz with hz | hz | hz
      · exact .inr (.inl hz)
      · exact .inl hz
      · exact .inr (.inr hz)
    · show w.hs[h]? = some true ↔ _
      rw [l.hs h]
      by_cases hgh : h = g.toNat
      · subst hgh
        rw [List.getElem?_set_self hlt]
        exact ⟨fun _ => ⟨_, rfl⟩, fun _ => ⟨R, hR⟩⟩
      · rw [List.getElem?_set_ne (Ne.symm hgh)]
    · rw [List.getElem?_set_ne (by omega)]; exact l.h0
    · rcases hget h Q hQ with ⟨rfl, rfl⟩ | ⟨h5, h6⟩
      · exact p1
      · exact hlc h Q h6
    · rcases hget h Q hQ with ⟨rfl, rfl⟩ | ⟨h5, h6⟩
      · rw [hgg]
        show y ∈ U.l ↔ _
        rw [p2 y]
        constructor
        · rintro (rfl | hy)
          · exact ⟨hx0, _, hput⟩
          · obtain ⟨y0, e, he⟩ := (hmem y).1 hy
            exact ⟨y0, e, by rw [hput2 _ (hne _ R hR y hy).2]; exact he⟩
        · rintro ⟨y0, e, he⟩
          by_cases hyx : y.toNat = x.toNat
          · exact .inl (by omega)
          · rw [hput2 _ hyx] at he
            exact .inr ((hmem y).2 ⟨y0, e, he⟩)
      · rw [l.mem h Q h6 y]
        by_cases hyx : y.toNat = x.toNat
        · rw [hyx, hput, hc0]
          constructor
          · rintro ⟨y0, e, he⟩
            injection he with he
            subst he
            rcases Nat.eq_zero_or_pos h with hi | hi
            · subst hi; rw [l.h0] at h6; cases h6
            · exact absurd (show (0 : Int) < ((h : Nat) : Int) by omega) hc1
          · rintro ⟨y0, e, he⟩
            injection he with he
            injection he with he1 he2
            omega
        · rw [hput2 _ hyx]
    · rcases hget h Q hQ with ⟨rfl, rfl⟩ | ⟨h5, h6⟩
      · rw [hgg, Nw.len_put hc0 g, if_neg (fun hc => by omega), if_pos ⟨by omega, rfl⟩]
        show (U.l.length : Int) = _
        omega
      · rw [l.len h Q h6, Nw.len_put hc0 h, if_neg (fun hc => by omega), if_neg (fun hc => by omega)]
        omega
    · exact (f0.mono fun _ _ h => h.elim).trans ((e1.mono fun z _ hz => hmS z (.inr (.inl hz))).trans (e2.mono fun z _ hz => hmS z hz))
    · have z0 := f0.size
      have z1 := e1.size
      rcases hz with hz | rfl | hz | ⟨i, Q, hQ, hz⟩
      · exact .inl (hmS z (.inr (.inl hz)))
      · exact .inl (hmS z (.inr (.inr rfl)))
      · exact .inl ((hS z).1 (.inr (.inr (.inl hz))))
      · rcases hget i Q hQ with ⟨rfl, rfl⟩ | ⟨h5, h6⟩
        · rcases hS' z hz with h | h
          · exact .inl (hmS z (.inl h))
          · exact .inr (by omega)
        · exact .inl ((hS z).1 (.inr (.inr (.inr ⟨i, Q, h6, hz⟩))))

end Go.Proofs.Yteicchpglnamcaa
