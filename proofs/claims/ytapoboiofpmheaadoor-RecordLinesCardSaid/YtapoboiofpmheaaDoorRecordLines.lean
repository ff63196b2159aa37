/-
  The law RecordLines answers true.
-/
import Derived.Test.YtapoboiofpmheaaDoorAlive18
set_option linter.unusedVariables false
set_option linter.unusedSimpArgs false
namespace Go.Proofs.YtapoboiofpmheaaDoor
open Go Go.Vc

theorem fitA_str18 {H : Hp} {v : Value} (h : fitA H (false, [.k .s]) v) : ∃ l : List UInt8, v = strV l := by
  obtain ⟨_, _, e, ⟨b, rfl, _⟩, rfl⟩ := h
  injection e with e _
  exact ⟨b.data.toList, e⟩

theorem law18_RecordLines_args {Hh : Hp} (he : ErrH Hh) {v0 : Value} (h0 : fitA Hh (false, [.k .s]) v0) : CallH Tryd.prog n_law18_RecordLines [v0] Hh fun v H' => Post (v = .bool true ∧ Fresh Hh H') := by
  obtain ⟨l, rfl⟩ := fitA_str18 h0
  have hz : l.toArray.size = l.length := List.size_toArray ..
  refine c_law18_RecordLines ⟨rfl, ?_⟩
  simp (disch := (first | omega | (simp only [size_new, size_newm, size_wr, size_wrm] <;> omega) | fail)) only [go_sem, Nat.reduceBEq, Nat.reduceAdd, Nat.reduceMul, Nat.reduceLeDiff, ↓reduceIte, rd_new_lt, own_new_lt, mp_new_lt, rd_newm_lt, own_newm_lt, mp_newm_lt, rd_wr_ne, own_wr_ne, mp_wr_ne, rd_wrm_ne, own_wrm_ne, mp_wrm_ne, rd_new_eq, own_new_eq, mp_newm_eq, s_law18_RecordLines]
  refine (law18_recordAlive_spec he).mono ?_
  rintro _ H1 ⟨rfl, f1⟩
  simp (disch := (first | omega | (simp only [size_new, size_newm, size_wr, size_wrm] <;> omega) | fail)) only [go_sem, Nat.reduceBEq, Nat.reduceAdd, Nat.reduceMul, Nat.reduceLeDiff, ↓reduceIte, rd_new_lt, own_new_lt, mp_new_lt, rd_newm_lt, own_newm_lt, mp_newm_lt, rd_wr_ne, own_wr_ne, mp_wr_ne, rd_wrm_ne, own_wrm_ne, mp_wrm_ne, rd_new_eq, own_new_eq, mp_newm_eq]
  refine Both.dec (fun h3 => ?_) (fun h3 => ?_) <;> simp (disch := (first | omega | (simp only [size_new, size_newm, size_wr, size_wrm] <;> omega) | fail)) only [go_sem, Nat.reduceBEq, Nat.reduceAdd, Nat.reduceMul, Nat.reduceLeDiff, ↓reduceIte, rd_new_lt, own_new_lt, mp_new_lt, rd_newm_lt, own_newm_lt, mp_newm_lt, rd_wr_ne, own_wr_ne, mp_wr_ne, rd_wrm_ne, own_wrm_ne, mp_wrm_ne, rd_new_eq, own_new_eq, mp_newm_eq]
  · exact ⟨rfl, f1⟩
  refine (record_Parse_spec (he.fresh f1) l (by omega)).mono ?_
  rintro v H2 ⟨hv, f2⟩
  rcases hv with ⟨op, a, b, k, hr, rfl, rfl⟩ | ⟨_, rfl⟩
  · have fb : Fresh H2 ((H2.new 40 [i64 0, u32 0, u32 0, i64 0]).wr H2.size [i64 op, u32 a, u32 b, i64 k]) := ((Ext.refl _ _).new _ _).wr (fun h => absurd h (Nat.lt_irrefl _)) _
    have ob := own_wr_same (l := [i64 op, u32 a, u32 b, i64 k]) (own_new H2 40 [i64 0, u32 0, u32 0, i64 0])
    simp (disch := (first | omega | (simp only [size_new, size_newm, size_wr, size_wrm] <;> omega) | fail)) only [go_sem, Nat.reduceBEq, Nat.reduceAdd, Nat.reduceMul, Nat.reduceLeDiff, ↓reduceIte, rd_new_lt, own_new_lt, mp_new_lt, rd_newm_lt, own_newm_lt, mp_newm_lt, rd_wr_ne, own_wr_ne, mp_wr_ne, rd_wrm_ne, own_wrm_ne, mp_wrm_ne, rd_new_eq, own_new_eq, mp_newm_eq]
    generalize (H2.new 40 [i64 0, u32 0, u32 0, i64 0]).wr H2.size [i64 op, u32 a, u32 b, i64 k] = H3 at *

    refine Both.of_true (by simp) ?_
    simp (disch := (first | omega | (simp only [size_new, size_newm, size_wr, size_wrm] <;> omega) | fail)) only [go_sem, Nat.reduceBEq, Nat.reduceAdd, Nat.reduceMul, Nat.reduceLeDiff, ↓reduceIte, rd_new_lt, own_new_lt, mp_new_lt, rd_newm_lt, own_newm_lt, mp_newm_lt, rd_wr_ne, own_wr_ne, mp_wr_ne, rd_wrm_ne, own_wrm_ne, mp_wrm_ne, rd_new_eq, own_new_eq, mp_newm_eq, rd_of_own ob]
    refine (record_Right_spec H3 op a b k).mono ?_
    rintro _ H4 ⟨rfl, f4⟩
    have o4 := f4.own ob (fun h => h)
    rw [right_rightB hr]
    simp (disch := (first | omega | (simp only [size_new, size_newm, size_wr, size_wrm] <;> omega) | fail)) only [go_sem, Nat.reduceBEq, Nat.reduceAdd, Nat.reduceMul, Nat.reduceLeDiff, ↓reduceIte, rd_new_lt, own_new_lt, mp_new_lt, rd_newm_lt, own_newm_lt, mp_newm_lt, rd_wr_ne, own_wr_ne, mp_wr_ne, rd_wrm_ne, own_wrm_ne, mp_wrm_ne, rd_new_eq, own_new_eq, mp_newm_eq, rd_of_own o4]
    refine (record_Text_spec (((he.fresh f1).fresh f2).fresh fb |>.fresh f4) ⟨hr.la, hr.lb, hr.k0, hr.k1⟩).mono ?_
    rintro _ H5 ⟨rfl, f5⟩
    rw [right_rightB hr, if_pos rfl, Int.toNat_natCast]
    simp (disch := (first | omega | (simp only [size_new, size_newm, size_wr, size_wrm] <;> omega) | fail)) only [go_sem, Nat.reduceBEq, Nat.reduceAdd, Nat.reduceMul, Nat.reduceLeDiff, ↓reduceIte, rd_new_lt, own_new_lt, mp_new_lt, rd_newm_lt, own_newm_lt, mp_newm_lt, rd_wr_ne, own_wr_ne, mp_wr_ne, rd_wrm_ne, own_wrm_ne, mp_wrm_ne, rd_new_eq, own_new_eq, mp_newm_eq, eq_bytes, decide_true]
    exact ⟨rfl, f1.trans (f2.trans (fb.trans (f4.trans f5)))⟩
  · have fb : Fresh H2 ((H2.new 40 [i64 0, u32 0, u32 0, i64 0]).wr H2.size [i64 0, u32 (0 : Nat), u32 (0 : Nat), i64 0]) := ((Ext.refl _ _).new _ _).wr (fun h => absurd h (Nat.lt_irrefl _)) _
    have ob := own_wr_same (l := [i64 0, u32 (0 : Nat), u32 (0 : Nat), i64 0]) (own_new H2 40 [i64 0, u32 0, u32 0, i64 0])
    simp (disch := (first | omega | (simp only [size_new, size_newm, size_wr, size_wrm] <;> omega) | fail)) only [go_sem, Nat.reduceBEq, Nat.reduceAdd, Nat.reduceMul, Nat.reduceLeDiff, ↓reduceIte, rd_new_lt, own_new_lt, mp_new_lt, rd_newm_lt, own_newm_lt, mp_newm_lt, rd_wr_ne, own_wr_ne, mp_wr_ne, rd_wrm_ne, own_wrm_ne, mp_wrm_ne, rd_new_eq, own_new_eq, mp_newm_eq]
    generalize (H2.new 40 [i64 0, u32 0, u32 0, i64 0]).wr H2.size [i64 0, u32 (0 : Nat), u32 (0 : Nat), i64 0] = H3 at *

    refine Both.dec (fun h => absurd h (by decide)) (fun _ => ?_)
    simp (disch := (first | omega | (simp only [size_new, size_newm, size_wr, size_wrm] <;> omega) | fail)) only [go_sem, Nat.reduceBEq, Nat.reduceAdd, Nat.reduceMul, Nat.reduceLeDiff, ↓reduceIte, rd_new_lt, own_new_lt, mp_new_lt, rd_newm_lt, own_newm_lt, mp_newm_lt, rd_wr_ne, own_wr_ne, mp_wr_ne, rd_wrm_ne, own_wrm_ne, mp_wrm_ne, rd_new_eq, own_new_eq, mp_newm_eq, rd_of_own ob, rec_eq, Option.map_some]
    refine Both.of_true (by simp) ?_
    simp (disch := (first | omega | (simp only [size_new, size_newm, size_wr, size_wrm] <;> omega) | fail)) only [go_sem, Nat.reduceBEq, Nat.reduceAdd, Nat.reduceMul, Nat.reduceLeDiff, ↓reduceIte, rd_new_lt, own_new_lt, mp_new_lt, rd_newm_lt, own_newm_lt, mp_newm_lt, rd_wr_ne, own_wr_ne, mp_wr_ne, rd_wrm_ne, own_wrm_ne, mp_wrm_ne, rd_new_eq, own_new_eq, mp_newm_eq, decide_true]
    exact ⟨by simp [tup], f1.trans (f2.trans fb)⟩

end Go.Proofs.YtapoboiofpmheaaDoor
