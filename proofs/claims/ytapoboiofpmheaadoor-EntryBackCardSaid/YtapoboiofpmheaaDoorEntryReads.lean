/-
  The law EntryReads answers true.
-/
import Derived.Test.YtapoboiofpmheaaDoorAlive01
import Derived.Test.YtapoboiofpmheaaDoorArgs
import Derived.Test.YtapoboiofpmheaaDoorRef01b
set_option linter.unusedVariables false
set_option linter.unusedSimpArgs false
namespace Go.Proofs.YtapoboiofpmheaaDoor
open Go Go.Vc

theorem fitA_str {H : Hp} {v : Value} (h : fitA H (false, [.k .s]) v) : ∃ l : List UInt8, v = strV l := by
  obtain ⟨_, _, e, ⟨b, rfl, _⟩, rfl⟩ := h
  injection e with e _
  exact ⟨b.data.toList, e⟩

/-- What a text's number is told to be. -/
def NumD (l : List UInt8) (v : Value) : Prop := (∃ n : Int, -9223372036854775808 ≤ n ∧ n ≤ 9223372036854775807 ∧ l = Lib.itoa n ∧ v = .tuple [i64 n, .bool true].toArray) ∨
      ((∀ n : Int, -9223372036854775808 ≤ n → n ≤ 9223372036854775807 → l ≠ Lib.itoa n) ∧ v = .tuple [i64 0, .bool false].toArray)
theorem NumD.told {l : List UInt8} {v : Value} (h : NumD l v) : ∃ (n : Int) (b : Bool), v = .tuple [i64 n, .bool b].toArray ∧ ∀ v', NumD l v' → v' = .tuple [i64 n, .bool b].toArray := by
  rcases h with ⟨n, a1, a2, a3, rfl⟩ | ⟨a1, rfl⟩ <;> refine ⟨_, _, rfl, fun v' h' => ?_⟩ <;> rcases h' with ⟨m, b1, b2, b3, rfl⟩ | ⟨b1, rfl⟩
  · rw [itoa_inj a1 a2 b1 b2 (a3.symm.trans b3)]
  · exact absurd a3 (b1 n a1 a2)
  · exact absurd b3 (a1 m b1 b2)
  · rfl

theorem textE_inj' {k k' : Int} {u u' : Nat} (h0 : -9223372036854775808 ≤ k) (h1 : k ≤ 9223372036854775807) (h2 : -9223372036854775808 ≤ k') (h3 : k' ≤ 9223372036854775807) (h : textE k u = textE k' u') : k = k' ∧ u = u' := by
  rw [textE_at, textE_at] at h
  obtain ⟨a, b⟩ := split35 (no35_itoa k) (no35_itoa k') h
  exact ⟨itoa_inj h0 h1 h2 h3 a, dec_inj b⟩

theorem ent_eq2 (k s k' s' : Int) : eqVs [(0, (none, .int)), (1, (none, .int))] [i64 k, u64 s] [i64 k', u64 s'] = some (decide (k = k') && decide (s = s')) := by
  by_cases h1 : k = k' <;> by_cases h2 : s = s' <;> simp [eqVs, partL, eqV, simpleEq, h1, h2]

/-- What a text's entry is told to be. -/
def EntD (l : List UInt8) (v : Value) : Prop := (∃ (k : Int) (u : Nat), -9223372036854775808 ≤ k ∧ k ≤ 9223372036854775807 ∧ u < 18446744073709551616 ∧ l = textE k u ∧ v = .tuple [ent k u, i64 0].toArray) ∨
      ((∀ (k : Int) (u : Nat), -9223372036854775808 ≤ k → k ≤ 9223372036854775807 → u < 18446744073709551616 → l ≠ textE k u) ∧ v = .tuple [ent 0 0, i64 11].toArray)
theorem EntD.told {l : List UInt8} {v : Value} (h : EntD l v) : ∃ (k u e : Int), v = .tuple [ent k u, i64 e].toArray ∧ ∀ v', EntD l v' → v' = .tuple [ent k u, i64 e].toArray := by
  rcases h with ⟨n, x, a1, a2, a4, a3, rfl⟩ | ⟨a1, rfl⟩ <;> refine ⟨_, _, _, rfl, fun v' h' => ?_⟩ <;> rcases h' with ⟨m, y, b1, b2, b4, b3, rfl⟩ | ⟨b1, rfl⟩
  · obtain ⟨rfl, rfl⟩ := textE_inj' a1 a2 b1 b2 (a3.symm.trans b3)
    rfl
  · exact absurd a3 (b1 n x a1 a2 a4)
  · exact absurd b3 (a1 m y b1 b2 b4)
  · rfl

theorem law01_EntryReads_args {Hh : Hp} (he : ErrH Hh) {v0 : Value} (h0 : fitA Hh (false, [.k .s]) v0) : CallH Tryd.prog n_law01_EntryReads [v0] Hh fun v H' => Post (v = .bool true ∧ Fresh Hh H') := by
  obtain ⟨l, rfl⟩ := fitA_str h0
  have hz : l.toArray.size = l.length := List.size_toArray ..
  refine c_law01_EntryReads ⟨rfl, ?_⟩
  simp (disch := (first | omega | (simp only [size_new, size_newm, size_wr, size_wrm] <;> omega) | fail)) only [go_sem, Nat.reduceBEq, Nat.reduceAdd, Nat.reduceMul, Nat.reduceLeDiff, ↓reduceIte, rd_new_lt, own_new_lt, mp_new_lt, rd_newm_lt, own_newm_lt, mp_newm_lt, rd_wr_ne, own_wr_ne, mp_wr_ne, rd_wrm_ne, own_wrm_ne, mp_wrm_ne, rd_new_eq, own_new_eq, mp_newm_eq, s_law01_EntryReads]
  refine (law01_entryAlive_spec he.tab).mono ?_
  rintro _ H1 ⟨rfl, f1⟩
  simp (disch := (first | omega | (simp only [size_new, size_newm, size_wr, size_wrm] <;> omega) | fail)) only [go_sem, Nat.reduceBEq, Nat.reduceAdd, Nat.reduceMul, Nat.reduceLeDiff, ↓reduceIte, rd_new_lt, own_new_lt, mp_new_lt, rd_newm_lt, own_newm_lt, mp_newm_lt, rd_wr_ne, own_wr_ne, mp_wr_ne, rd_wrm_ne, own_wrm_ne, mp_wrm_ne, rd_new_eq, own_new_eq, mp_newm_eq]
  refine Both.dec (fun h3 => ?_) (fun h3 => ?_) <;> simp (disch := (first | omega | (simp only [size_new, size_newm, size_wr, size_wrm] <;> omega) | fail)) only [go_sem, Nat.reduceBEq, Nat.reduceAdd, Nat.reduceMul, Nat.reduceLeDiff, ↓reduceIte, rd_new_lt, own_new_lt, mp_new_lt, rd_newm_lt, own_newm_lt, mp_newm_lt, rd_wr_ne, own_wr_ne, mp_wr_ne, rd_wrm_ne, own_wrm_ne, mp_wrm_ne, rd_new_eq, own_new_eq, mp_newm_eq]
  · exact ⟨rfl, f1⟩
  refine (entry_Number_spec (he.fresh f1) l (by omega)).mono ?_
  rintro vN H2 ⟨f2, hN⟩
  have e2 := (he.fresh f1).fresh f2
  obtain ⟨n, b, rfl, key⟩ := NumD.told hN
  simp (disch := (first | omega | (simp only [size_new, size_newm, size_wr, size_wrm] <;> omega) | fail)) only [go_sem, Nat.reduceBEq, Nat.reduceAdd, Nat.reduceMul, Nat.reduceLeDiff, ↓reduceIte, rd_new_lt, own_new_lt, mp_new_lt, rd_newm_lt, own_newm_lt, mp_newm_lt, rd_wr_ne, own_wr_ne, mp_wr_ne, rd_wrm_ne, own_wrm_ne, mp_wrm_ne, rd_new_eq, own_new_eq, mp_newm_eq]
  refine (ref01_Number_spec H2 l (by omega)).mono ?_
  rintro vM _ ⟨hM, rfl⟩
  rw [key vM hM]
  clear key
  simp (disch := (first | omega | (simp only [size_new, size_newm, size_wr, size_wrm] <;> omega) | fail)) only [go_sem, Nat.reduceBEq, Nat.reduceAdd, Nat.reduceMul, Nat.reduceLeDiff, ↓reduceIte, rd_new_lt, own_new_lt, mp_new_lt, rd_newm_lt, own_newm_lt, mp_newm_lt, rd_wr_ne, own_wr_ne, mp_wr_ne, rd_wrm_ne, own_wrm_ne, mp_wrm_ne, rd_new_eq, own_new_eq, mp_newm_eq]
  refine (entry_Parse_spec e2 l (by omega)).mono ?_
  rintro vP H3 ⟨f3, hP⟩
  obtain ⟨k, u, e, rfl, key⟩ := EntD.told hP
  have fa : Fresh H3 ((H3.new 27 [i64 0, u64 0]).wr H3.size [i64 k, u64 u]) := ((Ext.refl _ _).new _ _).wr (fun h => absurd h (Nat.lt_irrefl _)) _
  have oa := own_wr_same (l := [i64 k, u64 u]) (own_new H3 27 [i64 0, u64 0])
  simp (disch := (first | omega | (simp only [size_new, size_newm, size_wr, size_wrm] <;> omega) | fail)) only [go_sem, Nat.reduceBEq, Nat.reduceAdd, Nat.reduceMul, Nat.reduceLeDiff, ↓reduceIte, rd_new_lt, own_new_lt, mp_new_lt, rd_newm_lt, own_newm_lt, mp_newm_lt, rd_wr_ne, own_wr_ne, mp_wr_ne, rd_wrm_ne, own_wrm_ne, mp_wrm_ne, rd_new_eq, own_new_eq, mp_newm_eq]
  generalize (H3.new 27 [i64 0, u64 0]).wr H3.size [i64 k, u64 u] = H4 at *
  refine (ref01_Parse_spec H4 l (by omega)).mono ?_
  rintro vQ H5 ⟨hQ, f5⟩
  rw [key vQ hQ]
  clear key
  have o5 := f5.own oa (fun h => h)
  have fb : Fresh H5 ((H5.new 27 [i64 0, u64 0]).wr H5.size [i64 k, u64 u]) := ((Ext.refl _ _).new _ _).wr (fun h => absurd h (Nat.lt_irrefl _)) _
  have ob := own_wr_same (l := [i64 k, u64 u]) (own_new H5 27 [i64 0, u64 0])
  simp (disch := (first | omega | (simp only [size_new, size_newm, size_wr, size_wrm] <;> omega) | fail)) only [go_sem, Nat.reduceBEq, Nat.reduceAdd, Nat.reduceMul, Nat.reduceLeDiff, ↓reduceIte, rd_new_lt, own_new_lt, mp_new_lt, rd_newm_lt, own_newm_lt, mp_newm_lt, rd_wr_ne, own_wr_ne, mp_wr_ne, rd_wrm_ne, own_wrm_ne, mp_wrm_ne, rd_new_eq, own_new_eq, mp_newm_eq]
  have o6 := fb.own o5 (fun h => h)
  generalize (H5.new 27 [i64 0, u64 0]).wr H5.size [i64 k, u64 u] = H6 at *
  simp (disch := (first | omega | (simp only [size_new, size_newm, size_wr, size_wrm] <;> omega) | fail)) only [go_sem, Nat.reduceBEq, Nat.reduceAdd, Nat.reduceMul, Nat.reduceLeDiff, ↓reduceIte, rd_new_lt, own_new_lt, mp_new_lt, rd_newm_lt, own_newm_lt, mp_newm_lt, rd_wr_ne, own_wr_ne, mp_wr_ne, rd_wrm_ne, own_wrm_ne, mp_wrm_ne, rd_new_eq, own_new_eq, mp_newm_eq, decide_true, rd_of_own ob, rd_of_own o6, ent_eq2, Option.map_some]
  refine Both.of_true (by simp) ?_
  simp (disch := (first | omega | (simp only [size_new, size_newm, size_wr, size_wrm] <;> omega) | fail)) only [go_sem, Nat.reduceBEq, Nat.reduceAdd, Nat.reduceMul, Nat.reduceLeDiff, ↓reduceIte, rd_new_lt, own_new_lt, mp_new_lt, rd_newm_lt, own_newm_lt, mp_newm_lt, rd_wr_ne, own_wr_ne, mp_wr_ne, rd_wrm_ne, own_wrm_ne, mp_wrm_ne, rd_new_eq, own_new_eq, mp_newm_eq, decide_true, rd_of_own ob, rd_of_own o6, ent_eq2, Option.map_some]
  exact ⟨by simp [tup], f1.trans (f2.trans (f3.trans (fa.trans (f5.trans fb))))⟩

end Go.Proofs.YtapoboiofpmheaaDoor
