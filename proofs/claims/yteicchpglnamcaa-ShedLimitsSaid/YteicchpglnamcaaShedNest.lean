/-
  The package shed has a nest's calls.
-/
import Derived.Test.YteicchpglnamcaaShed4
import Derived.Test.YteicchpglnamcaaAtN
import Derived.Test.YteicchpglnamcaaBits
set_option linter.unusedVariables false
set_option linter.unusedSimpArgs false
namespace Go.Proofs.Yteicchpglnamcaa
open Go Go.Vc

/-- How many steps a call may take. -/
def limS (m : Int) : Int := 4 * (2 + (bitsN m.toNat : Nat))

theorem limS0 (m : Int) : 0 ≤ limS m := by unfold limS; omega

theorem limS2 {i m : Int} (h : i.toNat ≤ m.toNat) : ((2 * upN 2 i : Nat) : Int) ≤ limS m := by
  unfold limS
  have h1 := upN_bits' fine2 i
  have h2 := bitsN_mono m.toNat i.toNat h
  omega

theorem limS1 {i m : Int} (h : i.toNat ≤ m.toNat) : ((upN 2 i : Nat) : Int) ≤ limS m := by
  have := limS2 h
  omega

theorem shed_nx0 {H H' : Hp} {n : Nat} {S : Nat → Prop} {st : Int} {w : Nw} (h : ShedAt H' n S st w) (e : Ext S H H') {m : Int} (hm : 0 ≤ m) : Nx (fun H S st w => ShedAt H n S st w) S st H H' w m :=
  ⟨0, S, by omega, by have := h.stb; rw [show min (st + ((0 : Nat) : Int)) 4611686018427387904 = st by omega]; exact h, e, fun z hz => .inl hz⟩

theorem shed_nest (n : Nat) : NestS (.iface 23 (ptr n)) (fun H S st w => ShedAt H n S st w) limS true where
  cells := by
    rintro H S st w ⟨c, C, rv, fr, fa, ps, at_, m, l, hS⟩
    exact ⟨c, C, m.cells⟩
  teller S st w := by
    refine ⟨fun H i h => ?_, fun H i h => ?_, fun H i h => ?_, fun H i h => ?_, fun H H' V h e hd => h.ext e hd, fun H h => h.slt⟩
    · obtain ⟨c, C, rv, fr, fa, ps, at_, m, l, hS⟩ := id h
      obtain ⟨av, ho, _⟩ := m.own
      refine ⟨_, _, n_cells_Cells_Entry, ptr c, rfl, methR1 (off := 0) (by kernel_rfl) (rd_of_own ho) rfl, (cellsN_Entry_spec m.cells i).mono ?_⟩
      rintro v H' ⟨_, f, hv⟩
      exact ⟨h.fresh f, f.mono fun _ _ h => h.elim, hv⟩
    · obtain ⟨c, C, rv, fr, fa, ps, at_, m, l, hS⟩ := id h
      obtain ⟨av, ho, _⟩ := m.own
      refine ⟨_, _, n_cells_Cells_Home, ptr c, rfl, methR1 (off := 0) (by kernel_rfl) (rd_of_own ho) rfl, (cellsN_Home_spec m.cells i).mono ?_⟩
      rintro v H' (⟨h1, h2, rfl⟩ | ⟨h1, x, hx, h2, c1, e1⟩)
      · exact ⟨h, Ext.refl _ _, .inl ⟨h1, h2⟩⟩
      · exact ⟨⟨c, C, rv, fr, fa, ps, at_, m.cellsTo c1 e1, l, hS⟩, e1.mono fun z _ hz => (hS z).1 (.inl hz), .inr ⟨h1, x, hx, h2⟩⟩
    · obtain ⟨c, C, rv, fr, fa, ps, at_, m, l, hS⟩ := id h
      obtain ⟨av, ho, _⟩ := m.own
      exact ⟨_, _, n_cells_Cells_Has, ptr c, rfl, methR1 (off := 0) (by kernel_rfl) (rd_of_own ho) rfl, (cellsN_Has_spec m.cells i).mono fun v H' hp => hp⟩
    · obtain ⟨c, C, rv, fr, fa, ps, at_, m, l, hS⟩ := id h
      obtain ⟨av, ho, _⟩ := m.own
      exact ⟨_, _, n_cells_Cells_Len, ptr c, rfl, methR1 (off := 0) (by kernel_rfl) (rd_of_own ho) rfl, (cellsN_Len_spec m.cells i).mono fun v H' hp => hp⟩
  cap := by
    rintro H S st w ⟨c, C, rv, fr, fa, ps, at_, m, l, hS⟩
    obtain ⟨av, ho, _⟩ := m.own
    exact ⟨_, _, n_cells_Cells_Capacity, ptr c, rfl, methR1 (off := 0) (by kernel_rfl) (rd_of_own ho) rfl, (cellsN_Capacity_spec m.cells).mono fun v H' hp => hp⟩
  steps := by
    rintro H S st w ⟨c, C, rv, fr, fa, ps, at_, m, l, hS⟩
    obtain ⟨av, ho, _⟩ := m.own
    exact ⟨_, _, n_gauge_Meter_Steps, ptr c, rfl, methR2 (off := 0) (off' := 0) (c := c) (o' := 0) (by kernel_rfl) (rd_of_own ho) rfl, (cellsN_Steps_spec m.cells).mono fun v H' hp => hp⟩
  make := by
    intro H S st w h
    refine ⟨_, _, n_shed_Nest_Make, ptr n, rfl, methR0 (by kernel_rfl), (shed_Make_spec h).mono ?_⟩
    rintro v H' (⟨h1, rfl, rfl⟩ | ⟨h1, rfl, S', h2, h3, h4⟩)
    · exact .inl ⟨h1, rfl, shed_nx0 h (Ext.refl _ _) (by omega)⟩
    · exact .inr ⟨h1, rfl, 0, S', by omega, by have := h.stb; rw [show min (st + ((0 : Nat) : Int)) 4611686018427387904 = st by omega]; exact h2, h3, h4⟩
  insert := by
    intro H S st w g x k s h
    refine ⟨_, _, n_shed_Nest_Insert, ptr n, rfl, methR0 (by kernel_rfl), (shed_Insert_spec h g x k s).mono ?_⟩
    rintro v H' (⟨h1, rfl, h2, h3⟩ | ⟨h1, rfl, S', q, h2, _, h3, h4, h5⟩)
    · exact .inl ⟨h1, rfl, shed_nx0 h2 h3 (by omega)⟩
    · exact .inr ⟨h1, rfl, q, S', Int.le_trans h2 (limS1 (by have := (w.len_le g).1; omega)), h3, h4, h5⟩
  min := by
    intro H S st w g h
    refine ⟨_, _, n_shed_Nest_Min, ptr n, rfl, methR0 (by kernel_rfl), (shed_Min_spec h g).mono ?_⟩
    rintro v H' ⟨h1, rfl⟩
    have hn := shed_nx0 h (Ext.refl _ _) (limS0 (w.len g + 1))
    rcases h1 with ⟨h1, rfl⟩ | ⟨x, h2, rfl⟩
    · exact .inl ⟨h1, rfl, hn⟩
    · exact .inr ⟨x, h2, rfl, hn⟩
  extract := by
    intro H S st w g h
    refine ⟨_, _, n_shed_Nest_Extract, ptr n, rfl, methR0 (by kernel_rfl), (shed_Extract_spec h g).mono ?_⟩
    have hl := w.len_le g
    rintro v H' (⟨h1, rfl, rfl⟩ | ⟨x, h1, rfl, q, hq, S', h5, h6, h7⟩)
    · exact .inl ⟨h1, rfl, shed_nx0 h (Ext.refl _ _) (limS0 (w.len g + 1))⟩
    · exact .inr ⟨x, h1, rfl, q, S', Int.le_trans (Int.ofNat_le.2 hq) (limS2 (by omega)), h5, h6, h7⟩
  decrease := by
    intro H S st w x k s h
    refine ⟨_, _, n_shed_Nest_Decrease, ptr n, rfl, methR0 (by kernel_rfl), (shed_Decrease_spec h x k s).mono ?_⟩
    rintro v H' (⟨h1, rfl, h2, h3⟩ | ⟨h1, y, hy, h2, rfl, q, hq, S', h3, h4, h5⟩)
    · exact .inl ⟨h1, rfl, shed_nx0 h2 (h3.mono fun _ _ h => h.elim) (by omega)⟩
    · exact .inr ⟨⟨h1, fun z hz => by rw [hy] at hz; injection hz with hz; rw [← hz]; exact h2⟩, rfl, y, hy, q, S', Int.le_trans (Int.ofNat_le.2 hq) (limS2 (by have := (w.len_le y.1).1; omega)), h3, h4, h5⟩
  delete := by
    intro H S st w x h
    refine ⟨_, _, n_shed_Nest_Delete, ptr n, rfl, methR0 (by kernel_rfl), (shed_Delete_spec h x).mono ?_⟩
    rintro v H' (⟨h1, rfl, rfl⟩ | ⟨h1, rfl, y, q, hy, hq, S', h3, h4, h5⟩)
    · exact .inl ⟨h1, rfl, shed_nx0 h (Ext.refl _ _) (by omega)⟩
    · exact .inr ⟨h1, rfl, y, hy, q, S', Int.le_trans (Int.ofNat_le.2 hq) (limS2 (by have := (w.len_le y.1).1; omega)), h3, h4, h5⟩
  meld := by
    intro H S st w a b h
    refine ⟨_, _, n_shed_Nest_Meld, ptr n, rfl, methR0 (by kernel_rfl), (shed_Meld_spec h a b).mono ?_⟩
    rintro v H' (⟨h1, rfl, rfl⟩ | ⟨h1, rfl, q, hq, S', h3, h4, h5⟩)
    · exact .inl ⟨h1, rfl, shed_nx0 h (Ext.refl _ _) (by omega)⟩
    · refine .inr ⟨h1, rfl, q, S', Int.le_trans hq ?_, h3, h4, h5⟩
      have ha := w.len_le a
      have hb := w.len_le b
      have e1 := limS1 (i := w.len a + w.len b) (m := w.len a + w.len b + 1) (by omega)
      have e0 := limS0 (w.len a + w.len b + 1)
      simp only [cond_true]
      have e2 : Min.min (w.len a) (w.len b) * ((upN 2 (w.len a + w.len b) : Nat) : Int) ≤ Min.min (w.len a) (w.len b) * limS (w.len a + w.len b + 1) := Int.mul_le_mul_of_nonneg_left e1 (by omega)
      rw [Int.mul_add, Int.mul_comm (limS _)]
      omega
  lim0 := limS0

end Go.Proofs.Yteicchpglnamcaa
