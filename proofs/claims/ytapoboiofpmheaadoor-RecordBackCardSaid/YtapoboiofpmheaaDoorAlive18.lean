/-
  The laws of layer 18: the chapter's example.
-/
import Derived.Test.YtapoboiofpmheaaDoorRecParse
import Derived.Test.YtapoboiofpmheaaDoorArgs
set_option linter.unusedVariables false
set_option linter.unusedSimpArgs false
namespace Go.Proofs.YtapoboiofpmheaaDoor
open Go Go.Vc

theorem text_dec : textR 5 3 1 (-7) = [100, 101, 99, 114, 101, 97, 115, 101, 32, 51, 46, 49, 32, 45, 55] := by
  unfold textR wordsR
  rw [show Lib.itoa (-7) = 45 :: Lib.decDigits 7 from Lib.itoa_neg 7 (by omega), decDigits_small (u := 3) (by omega), decDigits_small (u := 1) (by omega), decDigits_small (u := 7) (by omega)]
  rfl
theorem right_dec : RightR 5 3 1 (-7) := ⟨by omega, by omega, by omega, by omega, by omega, fun h => absurd h (by decide), fun h => absurd h (by decide), fun h => absurd h (by decide)⟩
theorem text_bad : textR 0 0 0 0 = [98, 97, 100] := rfl
theorem right_bad : RightR 0 0 0 0 := ⟨by omega, by omega, by omega, by omega, by omega, fun _ => rfl, fun _ => rfl, fun _ => rfl⟩

theorem RecD.of {op a b : Nat} {k : Int} {v : Value} (hr : RightR op a b k) (h : RecD (textR op a b k) v) : v = .tuple [recV op a b k, i64 0].toArray := by
  rcases h with ⟨op', a', b', k', h1, h2, rfl⟩ | ⟨h, _⟩
  · obtain ⟨rfl, rfl, rfl, rfl⟩ := text_inj hr h1 h2
    rfl
  · exact absurd rfl (h _ _ _ _ hr)

theorem law18_recordAlive_spec {H : Hp} (he : ErrH H) : CallH Tryd.prog n_law18_recordAlive [] H fun v H' => Post (v = .bool true ∧ Fresh H H') := by
  refine c_law18_recordAlive ⟨rfl, ?_⟩
  simp (disch := (first | omega | (simp only [size_new, size_newm, size_wr, size_wrm] <;> omega) | fail)) only [go_sem, Nat.reduceBEq, Nat.reduceAdd, Nat.reduceMul, Nat.reduceLeDiff, ↓reduceIte, rd_new_lt, own_new_lt, mp_new_lt, rd_newm_lt, own_newm_lt, mp_newm_lt, rd_wr_ne, own_wr_ne, mp_wr_ne, rd_wrm_ne, own_wrm_ne, mp_wrm_ne, rd_new_eq, own_new_eq, mp_newm_eq, s_law18_recordAlive]
  refine (record_Parse_spec he [100, 101, 99, 114, 101, 97, 115, 101, 32, 51, 46, 49, 32, 45, 55] (by decide)).mono ?_
  rintro v H1 ⟨hv, f1⟩
  rw [← text_dec] at hv
  obtain rfl := RecD.of right_dec hv
  have fa : Fresh H1 ((H1.new 40 [i64 0, u32 0, u32 0, i64 0]).wr H1.size [i64 (5 : Nat), u32 (3 : Nat), u32 (1 : Nat), i64 (-7)]) := ((Ext.refl _ _).new _ _).wr (fun h => absurd h (Nat.lt_irrefl _)) _
  have oa := own_wr_same (l := [i64 (5 : Nat), u32 (3 : Nat), u32 (1 : Nat), i64 (-7)]) (own_new H1 40 [i64 0, u32 0, u32 0, i64 0])
  simp (disch := (first | omega | (simp only [size_new, size_newm, size_wr, size_wrm] <;> omega) | fail)) only [go_sem, Nat.reduceBEq, Nat.reduceAdd, Nat.reduceMul, Nat.reduceLeDiff, ↓reduceIte, rd_new_lt, own_new_lt, mp_new_lt, rd_newm_lt, own_newm_lt, mp_newm_lt, rd_wr_ne, own_wr_ne, mp_wr_ne, rd_wrm_ne, own_wrm_ne, mp_wrm_ne, rd_new_eq, own_new_eq, mp_newm_eq]
  generalize (H1.new 40 [i64 0, u32 0, u32 0, i64 0]).wr H1.size [i64 (5 : Nat), u32 (3 : Nat), u32 (1 : Nat), i64 (-7)] = H2 at *
  simp (disch := (first | omega | (simp only [size_new, size_newm, size_wr, size_wrm] <;> omega) | fail)) only [go_sem, Nat.reduceBEq, Nat.reduceAdd, Nat.reduceMul, Nat.reduceLeDiff, ↓reduceIte, rd_new_lt, own_new_lt, mp_new_lt, rd_newm_lt, own_newm_lt, mp_newm_lt, rd_wr_ne, own_wr_ne, mp_wr_ne, rd_wrm_ne, own_wrm_ne, mp_wrm_ne, rd_new_eq, own_new_eq, mp_newm_eq, decide_true, rd_of_own oa, rec_eq, Option.map_some]
  refine Both.of_true (by decide) ?_
  simp (disch := (first | omega | (simp only [size_new, size_newm, size_wr, size_wrm] <;> omega) | fail)) only [go_sem, Nat.reduceBEq, Nat.reduceAdd, Nat.reduceMul, Nat.reduceLeDiff, ↓reduceIte, rd_new_lt, own_new_lt, mp_new_lt, rd_newm_lt, own_newm_lt, mp_newm_lt, rd_wr_ne, own_wr_ne, mp_wr_ne, rd_wrm_ne, own_wrm_ne, mp_wrm_ne, rd_new_eq, own_new_eq, mp_newm_eq, decide_true, rd_of_own oa]
  refine (record_Text_spec ((he.fresh f1).fresh fa) (op := (5 : Nat)) (a := 3) (b := 1) (k := -7) ⟨by omega, by omega, by omega, by omega⟩).mono ?_
  rintro _ H3 ⟨rfl, f3⟩
  rw [right_rightB right_dec, if_pos rfl, Int.toNat_natCast, text_dec]
  simp (disch := (first | omega | (simp only [size_new, size_newm, size_wr, size_wrm] <;> omega) | fail)) only [go_sem, Nat.reduceBEq, Nat.reduceAdd, Nat.reduceMul, Nat.reduceLeDiff, ↓reduceIte, rd_new_lt, own_new_lt, mp_new_lt, rd_newm_lt, own_newm_lt, mp_newm_lt, rd_wr_ne, own_wr_ne, mp_wr_ne, rd_wrm_ne, own_wrm_ne, mp_wrm_ne, rd_new_eq, own_new_eq, mp_newm_eq, eq_bytes, decide_true]
  exact ⟨rfl, (f1.trans fa).trans f3⟩

end Go.Proofs.YtapoboiofpmheaaDoor
