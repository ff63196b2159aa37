/-
  The law RecordNames answers true.
-/
import Derived.Test.YtapoboiofpmheaaDoorAlive18
set_option linter.unusedVariables false
set_option linter.unusedSimpArgs false
namespace Go.Proofs.YtapoboiofpmheaaDoor
open Go Go.Vc

theorem law18_RecordNames_args {Hh : Hp} (he : ErrH Hh) : CallH Tryd.prog n_law18_RecordNames [] Hh fun v H' => Post (v = .bool true ∧ Fresh Hh H') := by
  refine c_law18_RecordNames ⟨rfl, ?_⟩
  simp (disch := (first | omega | (simp only [size_new, size_newm, size_wr, size_wrm] <;> omega) | fail)) only [go_sem, Nat.reduceBEq, Nat.reduceAdd, Nat.reduceMul, Nat.reduceLeDiff, ↓reduceIte, rd_new_lt, own_new_lt, mp_new_lt, rd_newm_lt, own_newm_lt, mp_newm_lt, rd_wr_ne, own_wr_ne, mp_wr_ne, rd_wrm_ne, own_wrm_ne, mp_wrm_ne, rd_new_eq, own_new_eq, mp_newm_eq, s_law18_RecordNames]
  refine (record_Parse_spec he [110, 101, 119, 32, 49] (by decide)).mono ?_
  rintro v H1 ⟨⟨op, a, b, k, hr, h, rfl⟩ | ⟨_, rfl⟩, f1⟩
  · exfalso
    have h2 := congrArg (pieces 32) h
    rw [pieces_text hr.le, show pieces 32 [110, 101, 119, 32, 49] = [[110, 101, 119], [49]] from by decide] at h2
    have h3 : wordOf 1 = wordOf op := by injection h2
    obtain rfl := word_inj (by omega) hr.le h3
    simp [wordsR, handleOf, heapsOf, keyOf] at h2
  have fa : Fresh H1 ((H1.new 40 [i64 0, u32 0, u32 0, i64 0]).wr H1.size [i64 0, u32 (0 : Nat), u32 (0 : Nat), i64 0]) := ((Ext.refl _ _).new _ _).wr (fun h => absurd h (Nat.lt_irrefl _)) _
  simp (disch := (first | omega | (simp only [size_new, size_newm, size_wr, size_wrm] <;> omega) | fail)) only [go_sem, Nat.reduceBEq, Nat.reduceAdd, Nat.reduceMul, Nat.reduceLeDiff, ↓reduceIte, rd_new_lt, own_new_lt, mp_new_lt, rd_newm_lt, own_newm_lt, mp_newm_lt, rd_wr_ne, own_wr_ne, mp_wr_ne, rd_wrm_ne, own_wrm_ne, mp_wrm_ne, rd_new_eq, own_new_eq, mp_newm_eq]
  generalize (H1.new 40 [i64 0, u32 0, u32 0, i64 0]).wr H1.size [i64 0, u32 (0 : Nat), u32 (0 : Nat), i64 0] = H2 at *
  refine (record_Parse_spec ((he.fresh f1).fresh fa) [98, 97, 100] (by decide)).mono ?_
  rintro v H3 ⟨hv, f3⟩
  obtain rfl := RecD.of right_bad hv
  have fb : Fresh H3 ((H3.new 40 [i64 0, u32 0, u32 0, i64 0]).wr H3.size [i64 (0 : Nat), u32 (0 : Nat), u32 (0 : Nat), i64 0]) := ((Ext.refl _ _).new _ _).wr (fun h => absurd h (Nat.lt_irrefl _)) _
  have ob := own_wr_same (l := [i64 (0 : Nat), u32 (0 : Nat), u32 (0 : Nat), i64 0]) (own_new H3 40 [i64 0, u32 0, u32 0, i64 0])
  simp (disch := (first | omega | (simp only [size_new, size_newm, size_wr, size_wrm] <;> omega) | fail)) only [go_sem, Nat.reduceBEq, Nat.reduceAdd, Nat.reduceMul, Nat.reduceLeDiff, ↓reduceIte, rd_new_lt, own_new_lt, mp_new_lt, rd_newm_lt, own_newm_lt, mp_newm_lt, rd_wr_ne, own_wr_ne, mp_wr_ne, rd_wrm_ne, own_wrm_ne, mp_wrm_ne, rd_new_eq, own_new_eq, mp_newm_eq]
  generalize (H3.new 40 [i64 0, u32 0, u32 0, i64 0]).wr H3.size [i64 (0 : Nat), u32 (0 : Nat), u32 (0 : Nat), i64 0] = H4 at *
  refine (law18_recordAlive_spec (((he.fresh f1).fresh fa).fresh f3 |>.fresh fb)).mono ?_
  rintro _ H5 ⟨rfl, f5⟩
  have o5 := f5.own ob (fun h => h)
  simp (disch := (first | omega | (simp only [size_new, size_newm, size_wr, size_wrm] <;> omega) | fail)) only [go_sem, Nat.reduceBEq, Nat.reduceAdd, Nat.reduceMul, Nat.reduceLeDiff, ↓reduceIte, rd_new_lt, own_new_lt, mp_new_lt, rd_newm_lt, own_newm_lt, mp_newm_lt, rd_wr_ne, own_wr_ne, mp_wr_ne, rd_wrm_ne, own_wrm_ne, mp_wrm_ne, rd_new_eq, own_new_eq, mp_newm_eq, decide_true, rd_of_own o5, rec_eq, Option.map_some]
  exact ⟨by simp [tup], f1.trans (fa.trans (f3.trans (fb.trans f5)))⟩

end Go.Proofs.YtapoboiofpmheaaDoor
