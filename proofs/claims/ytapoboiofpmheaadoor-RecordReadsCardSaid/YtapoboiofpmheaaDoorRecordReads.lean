/-
  The law RecordReads answers true.
-/
import Derived.Test.YtapoboiofpmheaaDoorAlive18
import Derived.Test.YtapoboiofpmheaaDoorRef18p
set_option linter.unusedVariables false
set_option linter.unusedSimpArgs false
namespace Go.Proofs.YtapoboiofpmheaaDoor
open Go Go.Vc

theorem fitA_strR {H : Hp} {v : Value} (h : fitA H (false, [.k .s]) v) : ∃ l : List UInt8, v = strV l := by
  obtain ⟨_, _, e, ⟨b, rfl, _⟩, rfl⟩ := h
  injection e with e _
  exact ⟨b.data.toList, e⟩

theorem RecD.told {l : List UInt8} {v : Value} (h : RecD l v) : ∃ (op : Int) (a b : Nat) (k e : Int), v = .tuple [recV op a b k, i64 e].toArray ∧ ∀ v', RecD l v' → v' = .tuple [recV op a b k, i64 e].toArray := by
  rcases h with ⟨op, a, b, k, h1, h2, rfl⟩ | ⟨h1, rfl⟩ <;> refine ⟨_, _, _, _, _, rfl, fun v' h' => ?_⟩ <;> rcases h' with ⟨op', a', b', k', g1, g2, rfl⟩ | ⟨g1, rfl⟩
  · obtain ⟨rfl, rfl, rfl, rfl⟩ := text_inj h1 g1 (h2.symm.trans g2)
    rfl
  · exact absurd h2 (g1 _ _ _ _ h1)
  · exact absurd g2 (h1 _ _ _ _ g1)
  · rfl

theorem law18_RecordReads_args {Hh : Hp} (he : ErrH Hh) {v0 : Value} (h0 : fitA Hh (false, [.k .s]) v0) : CallH Tryd.prog n_law18_RecordReads [v0] Hh fun v H' => Post (v = .bool true ∧ Fresh Hh H') := by
  obtain ⟨l, rfl⟩ := fitA_strR h0
  have hz : l.toArray.size = l.length := List.size_toArray ..
  refine c_law18_RecordReads ⟨rfl, ?_⟩
  simp (disch := (first | omega | (simp only [size_new, size_newm, size_wr, size_wrm] <;> omega) | fail)) only [go_sem, Nat.reduceBEq, Nat.reduceAdd, Nat.reduceMul, Nat.reduceLeDiff, ↓reduceIte, rd_new_lt, own_new_lt, mp_new_lt, rd_newm_lt, own_newm_lt, mp_newm_lt, rd_wr_ne, own_wr_ne, mp_wr_ne, rd_wrm_ne, own_wrm_ne, mp_wrm_ne, rd_new_eq, own_new_eq, mp_newm_eq, s_law18_RecordReads]
  refine (law18_recordAlive_spec he).mono ?_
  rintro _ H1 ⟨rfl, f1⟩
  simp (disch := (first | omega | (simp only [size_new, size_newm, size_wr, size_wrm] <;> omega) | fail)) only [go_sem, Nat.reduceBEq, Nat.reduceAdd, Nat.reduceMul, Nat.reduceLeDiff, ↓reduceIte, rd_new_lt, own_new_lt, mp_new_lt, rd_newm_lt, own_newm_lt, mp_newm_lt, rd_wr_ne, own_wr_ne, mp_wr_ne, rd_wrm_ne, own_wrm_ne, mp_wrm_ne, rd_new_eq, own_new_eq, mp_newm_eq]
  refine Both.dec (fun h3 => ?_) (fun h3 => ?_) <;> simp (disch := (first | omega | (simp only [size_new, size_newm, size_wr, size_wrm] <;> omega) | fail)) only [go_sem, Nat.reduceBEq, Nat.reduceAdd, Nat.reduceMul, Nat.reduceLeDiff, ↓reduceIte, rd_new_lt, own_new_lt, mp_new_lt, rd_newm_lt, own_newm_lt, mp_newm_lt, rd_wr_ne, own_wr_ne, mp_wr_ne, rd_wrm_ne, own_wrm_ne, mp_wrm_ne, rd_new_eq, own_new_eq, mp_newm_eq]
  · exact ⟨rfl, f1⟩
  refine (record_Parse_spec (he.fresh f1) l (by omega)).mono ?_
  rintro vP H3 ⟨hP, f3⟩
  obtain ⟨op, a, b, k, e, rfl, key⟩ := RecD.told hP
  have fa : Fresh H3 ((H3.new 40 [i64 0, u32 0, u32 0, i64 0]).wr H3.size [i64 op, u32 a, u32 b, i64 k]) := ((Ext.refl _ _).new _ _).wr (fun h => absurd h (Nat.lt_irrefl _)) _
  have oa := own_wr_same (l := [i64 op, u32 a, u32 b, i64 k]) (own_new H3 40 [i64 0, u32 0, u32 0, i64 0])
  simp (disch := (first | omega | (simp only [size_new, size_newm, size_wr, size_wrm] <;> omega) | fail)) only [go_sem, Nat.reduceBEq, Nat.reduceAdd, Nat.reduceMul, Nat.reduceLeDiff, ↓reduceIte, rd_new_lt, own_new_lt, mp_new_lt, rd_newm_lt, own_newm_lt, mp_newm_lt, rd_wr_ne, own_wr_ne, mp_wr_ne, rd_wrm_ne, own_wrm_ne, mp_wrm_ne, rd_new_eq, own_new_eq, mp_newm_eq]
  generalize (H3.new 40 [i64 0, u32 0, u32 0, i64 0]).wr H3.size [i64 op, u32 a, u32 b, i64 k] = H4 at *
  refine (ref18_Parse_spec H4 l (by omega)).mono ?_
  rintro vQ H5 ⟨hQ, f5⟩
  rw [key vQ hQ]
  clear key
  have o5 := f5.own oa (fun h => h)
  have fb : Fresh H5 ((H5.new 40 [i64 0, u32 0, u32 0, i64 0]).wr H5.size [i64 op, u32 a, u32 b, i64 k]) := ((Ext.refl _ _).new _ _).wr (fun h => absurd h (Nat.lt_irrefl _)) _
  have ob := own_wr_same (l := [i64 op, u32 a, u32 b, i64 k]) (own_new H5 40 [i64 0, u32 0, u32 0, i64 0])
  simp (disch := (first | omega | (simp only [size_new, size_newm, size_wr, size_wrm] <;> omega) | fail)) only [go_sem, Nat.reduceBEq, Nat.reduceAdd, Nat.reduceMul, Nat.reduceLeDiff, ↓reduceIte, rd_new_lt, own_new_lt, mp_new_lt, rd_newm_lt, own_newm_lt, mp_newm_lt, rd_wr_ne, own_wr_ne, mp_wr_ne, rd_wrm_ne, own_wrm_ne, mp_wrm_ne, rd_new_eq, own_new_eq, mp_newm_eq]
  have o6 := fb.own o5 (fun h => h)
  generalize (H5.new 40 [i64 0, u32 0, u32 0, i64 0]).wr H5.size [i64 op, u32 a, u32 b, i64 k] = H6 at *
  simp (disch := (first | omega | (simp only [size_new, size_newm, size_wr, size_wrm] <;> omega) | fail)) only [go_sem, Nat.reduceBEq, Nat.reduceAdd, Nat.reduceMul, Nat.reduceLeDiff, ↓reduceIte, rd_new_lt, own_new_lt, mp_new_lt, rd_newm_lt, own_newm_lt, mp_newm_lt, rd_wr_ne, own_wr_ne, mp_wr_ne, rd_wrm_ne, own_wrm_ne, mp_wrm_ne, rd_new_eq, own_new_eq, mp_newm_eq, decide_true, rd_of_own ob, rd_of_own o6, rec_eq, Option.map_some]
  exact ⟨by simp [tup], f1.trans (f3.trans (fa.trans (f5.trans fb)))⟩

end Go.Proofs.YtapoboiofpmheaaDoor
