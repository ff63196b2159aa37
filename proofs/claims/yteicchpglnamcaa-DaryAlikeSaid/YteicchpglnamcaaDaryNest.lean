/-
  The package dary has a nest's calls.
-/
import Derived.Test.YteicchpglnamcaaMeld
import Derived.Test.YteicchpglnamcaaAtN
import Derived.Test.YteicchpglnamcaaBits
set_option linter.unusedVariables false
set_option linter.unusedSimpArgs false
namespace Go.Proofs.Yteicchpglnamcaa
open Go Go.Vc

theorem DaryM.cellsTo {H H1 : Hp} {n c : Nat} {C : Nat → Prop} {rv : Value} {fp : Option Nat} {d st st' : Int} {w : Nw} {rs : List (Option Rw)} (m : DaryM H n c C rv fp d st w rs) (c1 : CellsN H1 c C st' w) (e1 : Ext C H H1) : DaryM H1 n c C rv fp d st' w rs :=
  ⟨e1.own m.own m.nC, c1, m.sl.ext e1 (fun b hb h => (m.fpd b hb).2 h), fun i R hR => (m.row i R hR).ext e1 (fun x hx => (m.rowd i R hR x hx).1), m.nC, m.fpd, m.rowd, m.rowrow⟩

theorem DaryAt.st {H : Hp} {n : Nat} {S : Nat → Prop} {d st : Int} {w : Nw} (h : DaryAt H n S d st w) : 0 ≤ st ∧ st ≤ 4611686018427387904 := by
  obtain ⟨c, C, rv, fp, rs, m, l, hS⟩ := h
  exact m.cells.st

/-- How many steps a call may take. -/
def limD (d : Int) (m : Int) : Int := d * (2 + (bitsN m.toNat : Nat))

theorem limD0 {d : Int} (hd : FineD d) (m : Int) : 0 ≤ limD d m := Int.mul_nonneg (by have := hd.1; omega) (by omega)

theorem limD1 {d : Int} (hd : FineD d) {i m : Int} (h : i.toNat ≤ m.toNat) : ((upN d i : Nat) : Int) ≤ limD d m := by
  unfold limD
  have h1 := upN_bits' hd i
  have h2 := bitsN_mono m.toNat i.toNat h
  have h3 : 2 * (2 + ((bitsN m.toNat : Nat) : Int)) ≤ d * (2 + (bitsN m.toNat : Nat)) := Int.mul_le_mul_of_nonneg_right hd.1 (by omega)
  omega

theorem limD2 {d : Int} (hd : FineD d) {i m : Int} (h : i.toNat ≤ m.toNat) : d * ((upN d i : Nat) : Int) + 1 ≤ limD d m := by
  unfold limD
  have h1 := upN_bits' hd i
  have h2 := bitsN_mono m.toNat i.toNat h
  have h3 : d * ((upN d i : Nat) : Int) ≤ d * (bitsN m.toNat : Nat) := Int.mul_le_mul_of_nonneg_left (by omega) (by have := hd.1; omega)
  rw [Int.mul_add]
  have := hd.1
  omega

theorem nx0 {H H' : Hp} {n : Nat} {S : Nat → Prop} {d st : Int} {w : Nw} (h : DaryAt H' n S d st w) (e : Ext S H H') {m : Int} (hm : 0 ≤ m) : Nx (fun H S st w => DaryAt H n S d st w) S st H H' w m :=
  ⟨0, S, by omega, by have := h.st; rw [show min (st + ((0 : Nat) : Int)) 4611686018427387904 = st by omega]; exact h, e, fun z hz => .inl hz⟩

theorem dary_nest (n : Nat) {d : Int} (hd : FineD d) : NestS (.iface 56 (ptr n)) (fun H S st w => DaryAt H n S d st w) (limD d) true where
  cells := by
    rintro H S st w ⟨c, C, rv, fp, rs, m, l, hS⟩
    exact ⟨c, C, m.cells⟩
  teller S st w := by
    refine ⟨fun H i h => ?_, fun H i h => ?_, fun H i h => ?_, fun H i h => ?_, fun H H' V h e hd => h.ext e hd, fun H h => h.slt⟩
    · obtain ⟨c, C, rv, fp, rs, m, l, hS⟩ := id h
      refine ⟨_, _, n_cells_Cells_Entry, ptr c, rfl, methR1 (off := 0) (by kernel_rfl) (rd_of_own m.own) rfl, (cellsN_Entry_spec m.cells i).mono ?_⟩
      rintro v H' ⟨_, f, hv⟩
      exact ⟨h.fresh f, f.mono fun _ _ h => h.elim, hv⟩
    · obtain ⟨c, C, rv, fp, rs, m, l, hS⟩ := id h
      refine ⟨_, _, n_cells_Cells_Home, ptr c, rfl, methR1 (off := 0) (by kernel_rfl) (rd_of_own m.own) rfl, (cellsN_Home_spec m.cells i).mono ?_⟩
      rintro v H' (⟨h1, h2, rfl⟩ | ⟨h1, x, hx, h2, c1, e1⟩)
      · exact ⟨h, Ext.refl _ _, .inl ⟨h1, h2⟩⟩
      · exact ⟨⟨c, C, rv, fp, rs, m.cellsTo c1 e1, l, hS⟩, e1.mono fun z _ hz => (hS z).1 (.inl hz), .inr ⟨h1, x, hx, h2⟩⟩
    · obtain ⟨c, C, rv, fp, rs, m, l, hS⟩ := id h
      exact ⟨_, _, n_cells_Cells_Has, ptr c, rfl, methR1 (off := 0) (by kernel_rfl) (rd_of_own m.own) rfl, (cellsN_Has_spec m.cells i).mono fun v H' hp => hp⟩
    · obtain ⟨c, C, rv, fp, rs, m, l, hS⟩ := id h
      exact ⟨_, _, n_cells_Cells_Len, ptr c, rfl, methR1 (off := 0) (by kernel_rfl) (rd_of_own m.own) rfl, (cellsN_Len_spec m.cells i).mono fun v H' hp => hp⟩
  cap := by
    rintro H S st w ⟨c, C, rv, fp, rs, m, l, hS⟩
    exact ⟨_, _, n_cells_Cells_Capacity, ptr c, rfl, methR1 (off := 0) (by kernel_rfl) (rd_of_own m.own) rfl, (cellsN_Capacity_spec m.cells).mono fun v H' hp => hp⟩
  steps := by
    rintro H S st w ⟨c, C, rv, fp, rs, m, l, hS⟩
    exact ⟨_, _, n_gauge_Meter_Steps, ptr c, rfl, methR2 (off := 0) (off' := 0) (c := c) (o' := 0) (by kernel_rfl) (rd_of_own m.own) rfl, (cellsN_Steps_spec m.cells).mono fun v H' hp => hp⟩
  make := by
    intro H S st w h
    refine ⟨_, _, n_dary_Nest_Make, ptr n, rfl, methR0 (by kernel_rfl), (dary_Make_spec h).mono ?_⟩
    rintro v H' (⟨h1, rfl, rfl⟩ | ⟨h1, rfl, S', h2, h3, h4⟩)
    · exact .inl ⟨h1, rfl, nx0 h (Ext.refl _ _) (by omega)⟩
    · exact .inr ⟨h1, rfl, 0, S', by omega, by have := h.st; rw [show min (st + ((0 : Nat) : Int)) 4611686018427387904 = st by omega]; exact h2, h3, h4⟩
  insert := by
    intro H S st w g x k s h
    refine ⟨_, _, n_dary_Nest_Insert, ptr n, rfl, methR0 (by kernel_rfl), (dary_Insert_spec h g x k s).mono ?_⟩
    rintro v H' (⟨h1, rfl, h2, h3⟩ | ⟨h1, rfl, S', q, h2, _, h3, h4, h5⟩)
    · exact .inl ⟨h1, rfl, nx0 h2 h3 (by omega)⟩
    · exact .inr ⟨h1, rfl, q, S', Int.le_trans h2 (limD1 hd (by have := (w.len_le g).1; omega)), h3, h4, h5⟩
  min := by
    intro H S st w g h
    refine ⟨_, _, n_dary_Nest_Min, ptr n, rfl, methR0 (by kernel_rfl), (dary_Min_spec h g).mono ?_⟩
    rintro v H' ⟨h1, rfl⟩
    have hn := nx0 h (Ext.refl _ _) (limD0 hd (w.len g + 1))
    obtain ⟨c, C, rv, fp, rs, m, l, hS⟩ := h
    rcases h1 with ⟨h1, rfl⟩ | ⟨h1, h2, rfl⟩ | ⟨h1, x, h2, h3, rfl, h4⟩
    · refine .inl ⟨Nw.len0.2 ?_, rfl, hn⟩
      by_cases hg : g ≤ 0
      · exact .inl hg
      · refine .inr fun i c hc e => h1 ⟨by omega, ?_⟩
        have := m.cells.live c (List.mem_of_getElem? hc) (by omega)
        rwa [e] at this
    · exact .inl ⟨h2, rfl, hn⟩
    · exact .inr ⟨x, ⟨by have := h1.1; omega, h2.1, h3, h4⟩, rfl, hn⟩
  extract := by
    intro H S st w g h
    refine ⟨_, _, n_dary_Nest_Extract, ptr n, rfl, methR0 (by kernel_rfl), (dary_Extract_spec h g).mono ?_⟩
    have hl := w.len_le g
    rintro v H' (⟨h1, rfl, rfl⟩ | ⟨h1, x, h2, h3, h4, rfl, q, hq, S', h5, h6, h7⟩)
    · have hn := nx0 h (Ext.refl _ _) (limD0 hd (w.len g + 1))
      obtain ⟨c, C, rv, fp, rs, m, l, hS⟩ := h
      rcases h1 with h1 | ⟨_, h1⟩
      · refine .inl ⟨Nw.len0.2 ?_, rfl, hn⟩
        by_cases hg : g ≤ 0
        · exact .inl hg
        · refine .inr fun i c hc e => h1 ⟨by omega, ?_⟩
          have := m.cells.live c (List.mem_of_getElem? hc) (by omega)
          rwa [e] at this
      · exact .inl ⟨h1, rfl, hn⟩
    · exact .inr ⟨x, ⟨by have := h1.1; omega, h2.1, h3, h4⟩, rfl, q, S', Int.le_trans hq (limD2 hd (by omega)), h5, h6, h7⟩
  decrease := by
    intro H S st w x k s h
    refine ⟨_, _, n_dary_Nest_Decrease, ptr n, rfl, methR0 (by kernel_rfl), (dary_Decrease_spec h x k s).mono ?_⟩
    rintro v H' (⟨h1, rfl, h2, h3⟩ | ⟨h1, y, hy, h2, rfl, q, hq, S', h3, h4, h5⟩)
    · exact .inl ⟨h1, rfl, nx0 h2 (h3.mono fun _ _ h => h.elim) (by omega)⟩
    · exact .inr ⟨⟨h1, fun z hz => by rw [hy] at hz; injection hz with hz; rw [← hz]; exact h2⟩, rfl, y, hy, q, S', Int.le_trans hq (limD1 hd (by have := (w.len_le y.1).1; omega)), h3, h4, h5⟩
  delete := by
    intro H S st w x h
    refine ⟨_, _, n_dary_Nest_Delete, ptr n, rfl, methR0 (by kernel_rfl), (dary_Delete_spec h x).mono ?_⟩
    rintro v H' (⟨h1, rfl, rfl⟩ | ⟨h1, rfl, y, q, hy, hq, S', h3, h4, h5⟩)
    · exact .inl ⟨h1, rfl, nx0 h (Ext.refl _ _) (by omega)⟩
    · exact .inr ⟨h1, rfl, y, hy, q, S', Int.le_trans hq (limD2 hd (by have := (w.len_le y.1).1; omega)), h3, h4, h5⟩
  meld := by
    intro H S st w a b h
    refine ⟨_, _, n_dary_Nest_Meld, ptr n, rfl, methR0 (by kernel_rfl), (dary_Meld_spec h a b).mono ?_⟩
    rintro v H' (⟨h1, rfl, rfl⟩ | ⟨h1, rfl, q, hq, S', h3, h4, h5⟩)
    · exact .inl ⟨h1, rfl, nx0 h (Ext.refl _ _) (by omega)⟩
    · refine .inr ⟨h1, rfl, q, S', Int.le_trans hq ?_, h3, h4, h5⟩
      have ha := w.len_le a
      have hb := w.len_le b
      have e1 := limD1 hd (i := w.len a + w.len b) (m := w.len a + w.len b + 1) (by omega)
      have e0 := limD0 hd (w.len a + w.len b + 1)
      simp only [cond_true]
      have e2 : min (w.len a) (w.len b) * ((upN d (w.len a + w.len b) : Nat) : Int) ≤ min (w.len a) (w.len b) * limD d (w.len a + w.len b + 1) := Int.mul_le_mul_of_nonneg_left e1 (by omega)
      rw [Int.mul_add, Int.mul_comm (limD d _)]
      omega
  lim0 := limD0 hd

theorem law08_open_spec {cap d : Int} (hc : 0 ≤ cap ∧ cap ≤ 65536) (hd : FineD d) (H : Hp) : CallH Try.prog n_law08_open [i64 cap, i64 d] H fun v H' => Post (
    ∃ n S, v = .tuple [ptr n, .bool true].toArray ∧ DaryAt H' n S d 0 ⟨[false], List.replicate cap.toNat (0, 0, 0)⟩ ∧ Fresh H H' ∧ ∀ x, S x → H.size ≤ x) := by
  refine c_law08_open ⟨rfl, ?_⟩
  simp (disch := (first | omega | (simp only [size_new, size_newm, size_wr, size_wrm] <;> omega) | fail)) only [go_sem, Nat.reduceBEq, Nat.reduceAdd, Nat.reduceMul, Nat.reduceLeDiff, ↓reduceIte, rd_new_lt, own_new_lt, mp_new_lt, rd_newm_lt, own_newm_lt, mp_newm_lt, rd_wr_ne, own_wr_ne, mp_wr_ne, rd_wrm_ne, own_wrm_ne, mp_wrm_ne, rd_new_eq, own_new_eq, mp_newm_eq, s_law08_open]
  refine (dary_New_spec cap d H).mono ?_
  rintro _ H1 ⟨f1, ⟨h, _⟩ | ⟨_, h, _⟩ | ⟨_, _, n, S, rfl, d1, hS⟩⟩
  · exact absurd hc h
  · exact absurd hd h
  simp (disch := (first | omega | (simp only [size_new, size_newm, size_wr, size_wrm] <;> omega) | fail)) only [go_sem, Nat.reduceBEq, Nat.reduceAdd, Nat.reduceMul, Nat.reduceLeDiff, ↓reduceIte, rd_new_lt, own_new_lt, mp_new_lt, rd_newm_lt, own_newm_lt, mp_newm_lt, rd_wr_ne, own_wr_ne, mp_wr_ne, rd_wrm_ne, own_wrm_ne, mp_wrm_ne, rd_new_eq, own_new_eq, mp_newm_eq, Option.isNone_some]
  first | exact ⟨n, S, rfl, d1, f1, hS⟩ | (refine Both.of_true (by simp) ?_; simp (disch := (first | omega | (simp only [size_new, size_newm, size_wr, size_wrm] <;> omega) | fail)) only [go_sem, Nat.reduceBEq, Nat.reduceAdd, Nat.reduceMul, Nat.reduceLeDiff, ↓reduceIte, rd_new_lt, own_new_lt, mp_new_lt, rd_newm_lt, own_newm_lt, mp_newm_lt, rd_wr_ne, own_wr_ne, mp_wr_ne, rd_wrm_ne, own_wrm_ne, mp_wrm_ne, rd_new_eq, own_new_eq, mp_newm_eq]; exact ⟨n, S, rfl, d1, f1, hS⟩)

end Go.Proofs.Yteicchpglnamcaa
