/-
  The laws of layer 1: the chapter's examples.
-/
import Derived.Test.YtapoboiofpmheaaDoorRef01
import Derived.Test.YtapoboiofpmheaaDoorArgs
set_option linter.unusedVariables false
set_option linter.unusedSimpArgs false
namespace Go.Proofs.YtapoboiofpmheaaDoor
open Go Go.Vc

theorem text_57 : textE (-5) 7 = [45, 53, 35, 55] := by
  unfold textE Lib.itoa
  rw [if_pos (by omega), show (-5 : Int).natAbs = 5 from rfl, decDigits_small (u := 5) (by omega), decDigits_small (u := 7) (by omega)]
  rfl

theorem law01_entryAlive_spec {H : Hp} (ht : TabH H) : CallH Tryd.prog n_law01_entryAlive [] H fun v H' => Post (v = .bool true ∧ Fresh H H') := by
  refine c_law01_entryAlive ⟨rfl, ?_⟩
  have f1 : Fresh H (H.new 27 [i64 0, u64 0]) := (Ext.refl _ _).new _ _
  have f2 : Fresh (H.new 27 [i64 0, u64 0]) ((H.new 27 [i64 0, u64 0]).new 27 [i64 0, u64 0]) := (Ext.refl _ _).new _ _
  have f3 : Fresh ((H.new 27 [i64 0, u64 0]).new 27 [i64 0, u64 0]) (((H.new 27 [i64 0, u64 0]).new 27 [i64 0, u64 0]).new 27 [i64 0, u64 0]) := (Ext.refl _ _).new _ _
  have g1 := (f2.trans f3).own (own_new H 27 [i64 0, u64 0]) (fun h => h)
  have g2 := f3.own (own_new (H.new 27 [i64 0, u64 0]) 27 [i64 0, u64 0]) (fun h => h)
  have g3 := own_new ((H.new 27 [i64 0, u64 0]).new 27 [i64 0, u64 0]) 27 [i64 0, u64 0]
  have z1 : (H.new 27 [i64 0, u64 0]).size = H.size + 1 := by simp only [size_new]
  have z2 : ((H.new 27 [i64 0, u64 0]).new 27 [i64 0, u64 0]).size = H.size + 1 + 1 := by simp only [size_new]
  rw [z1] at g2
  rw [z2] at g3
  have f4 := f1.trans (f2.trans f3)
  simp (disch := (first | omega | (simp only [size_new, size_newm, size_wr, size_wrm] <;> omega) | fail)) only [go_sem, Nat.reduceBEq, Nat.reduceAdd, Nat.reduceMul, Nat.reduceLeDiff, ↓reduceIte, rd_new_lt, own_new_lt, mp_new_lt, rd_newm_lt, own_newm_lt, mp_newm_lt, rd_wr_ne, own_wr_ne, mp_wr_ne, rd_wrm_ne, own_wrm_ne, mp_wrm_ne, rd_new_eq, own_new_eq, mp_newm_eq, s_law01_entryAlive]
  generalize ((H.new 27 [i64 0, u64 0]).new 27 [i64 0, u64 0]).new 27 [i64 0, u64 0] = G at *
  have w1 : Ext (fun z => z = H.size ∨ z = H.size + 1 ∨ z = H.size + 1 + 1) G (((G.wr H.size [i64 (-5), u64 7]).wr (H.size + 1) [i64 (-5), u64 8]).wr (H.size + 1 + 1) [i64 (-4), u64 0]) :=
    (((Ext.refl (fun z => z = H.size ∨ z = H.size + 1 ∨ z = H.size + 1 + 1) G).wr (fun _ => .inl rfl) _).wr (fun _ => .inr (.inl rfl)) _).wr (fun _ => .inr (.inr rfl)) _
  have k1 : (((G.wr H.size [i64 (-5), u64 7]).wr (H.size + 1) [i64 (-5), u64 8]).wr (H.size + 1 + 1) [i64 (-4), u64 0]).own H.size = some [i64 (-5), u64 7] := by
    rw [own_wr_ne (by omega), own_wr_ne (by omega)]; exact own_wr_same g1
  have k2 : (((G.wr H.size [i64 (-5), u64 7]).wr (H.size + 1) [i64 (-5), u64 8]).wr (H.size + 1 + 1) [i64 (-4), u64 0]).own (H.size + 1) = some [i64 (-5), u64 8] := by
    rw [own_wr_ne (by omega)]; exact own_wr_same (by rw [own_wr_ne (by omega)]; exact g2)
  have k3 : (((G.wr H.size [i64 (-5), u64 7]).wr (H.size + 1) [i64 (-5), u64 8]).wr (H.size + 1 + 1) [i64 (-4), u64 0]).own (H.size + 1 + 1) = some [i64 (-4), u64 0] :=
    own_wr_same (by rw [own_wr_ne (by omega), own_wr_ne (by omega)]; exact g3)
  simp (disch := (first | omega | (simp only [size_new, size_newm, size_wr, size_wrm] <;> omega) | fail)) only [go_sem, Nat.reduceBEq, Nat.reduceAdd, Nat.reduceMul, Nat.reduceLeDiff, ↓reduceIte, rd_new_lt, own_new_lt, mp_new_lt, rd_newm_lt, own_newm_lt, mp_newm_lt, rd_wr_ne, own_wr_ne, mp_wr_ne, rd_wrm_ne, own_wrm_ne, mp_wrm_ne, rd_new_eq, own_new_eq, mp_newm_eq, rd_of_own (own_wr_same g1)]
  generalize (((G.wr H.size [i64 (-5), u64 7]).wr (H.size + 1) [i64 (-5), u64 8]).wr (H.size + 1 + 1) [i64 (-4), u64 0]) = G3 at *
  have f5 : Fresh H G3 := f4.then w1 (fun z hz => by omega)
  refine (entry_Text_spec (ht.fresh f5) (by omega) (by omega) (s := 7) (by omega)).mono ?_
  rintro _ H1 ⟨rfl, f6⟩
  rw [text_57]
  have j1 := f6.own k1 (fun h => h)
  have j2 := f6.own k2 (fun h => h)
  have j3 := f6.own k3 (fun h => h)
  simp (disch := (first | omega | (simp only [size_new, size_newm, size_wr, size_wrm] <;> omega) | fail)) only [go_sem, Nat.reduceBEq, Nat.reduceAdd, Nat.reduceMul, Nat.reduceLeDiff, ↓reduceIte, rd_new_lt, own_new_lt, mp_new_lt, rd_newm_lt, own_newm_lt, mp_newm_lt, rd_wr_ne, own_wr_ne, mp_wr_ne, rd_wrm_ne, own_wrm_ne, mp_wrm_ne, rd_new_eq, own_new_eq, mp_newm_eq]
  refine Both.of_true (by simp) ?_
  simp (disch := (first | omega | (simp only [size_new, size_newm, size_wr, size_wrm] <;> omega) | fail)) only [go_sem, Nat.reduceBEq, Nat.reduceAdd, Nat.reduceMul, Nat.reduceLeDiff, ↓reduceIte, rd_new_lt, own_new_lt, mp_new_lt, rd_newm_lt, own_newm_lt, mp_newm_lt, rd_wr_ne, own_wr_ne, mp_wr_ne, rd_wrm_ne, own_wrm_ne, mp_wrm_ne, rd_new_eq, own_new_eq, mp_newm_eq, rd_of_own j1, rd_of_own j2]
  refine (entry_Less_spec (-5) 7 (-5) 8 H1).mono ?_
  rintro _ H2 ⟨rfl, f7⟩
  have i1 := f7.own j1 (fun h => h)
  have i3 := f7.own j3 (fun h => h)
  simp (disch := (first | omega | (simp only [size_new, size_newm, size_wr, size_wrm] <;> omega) | fail)) only [go_sem, Nat.reduceBEq, Nat.reduceAdd, Nat.reduceMul, Nat.reduceLeDiff, ↓reduceIte, rd_new_lt, own_new_lt, mp_new_lt, rd_newm_lt, own_newm_lt, mp_newm_lt, rd_wr_ne, own_wr_ne, mp_wr_ne, rd_wrm_ne, own_wrm_ne, mp_wrm_ne, rd_new_eq, own_new_eq, mp_newm_eq]
  refine Both.of_true (by decide) ?_
  simp (disch := (first | omega | (simp only [size_new, size_newm, size_wr, size_wrm] <;> omega) | fail)) only [go_sem, Nat.reduceBEq, Nat.reduceAdd, Nat.reduceMul, Nat.reduceLeDiff, ↓reduceIte, rd_new_lt, own_new_lt, mp_new_lt, rd_newm_lt, own_newm_lt, mp_newm_lt, rd_wr_ne, own_wr_ne, mp_wr_ne, rd_wrm_ne, own_wrm_ne, mp_wrm_ne, rd_new_eq, own_new_eq, mp_newm_eq, rd_of_own i1, rd_of_own i3]
  refine (entry_Less_spec (-5) 7 (-4) 0 H2).mono ?_
  rintro _ H3 ⟨rfl, f8⟩
  simp (disch := (first | omega | (simp only [size_new, size_newm, size_wr, size_wrm] <;> omega) | fail)) only [go_sem, Nat.reduceBEq, Nat.reduceAdd, Nat.reduceMul, Nat.reduceLeDiff, ↓reduceIte, rd_new_lt, own_new_lt, mp_new_lt, rd_newm_lt, own_newm_lt, mp_newm_lt, rd_wr_ne, own_wr_ne, mp_wr_ne, rd_wrm_ne, own_wrm_ne, mp_wrm_ne, rd_new_eq, own_new_eq, mp_newm_eq]
  exact ⟨rfl, ((f5.trans f6).trans f7).trans f8⟩

end Go.Proofs.YtapoboiofpmheaaDoor
