/-
  The law EntryBack answers true.
-/
import Derived.Test.YtapoboiofpmheaaDoorEntryReads
import Derived.Test.YtapoboiofpmheaaDoorTurn01
set_option linter.unusedVariables false
set_option linter.unusedSimpArgs false
namespace Go.Proofs.YtapoboiofpmheaaDoor
open Go Go.Vc

theorem textE_len {k : Int} {u : Nat} (h0 : -9223372036854775808 ≤ k) (h1 : k ≤ 9223372036854775807) (h2 : u < 18446744073709551616) : (textE k u).length ≤ 42 := by
  have l1 := itoa_len h0 h1
  have l2 := decDigits_len h2
  rw [textE_at, List.length_append, List.length_cons]
  omega

theorem law01_EntryBack_args {Hh : Hp} (he : ErrH Hh) {v0 v1 : Value} (h0 : fitA Hh (true, [.k (.i .i64), .k (.i .u64)]) v0) (h1 : fitA Hh (false, [.k .s]) v1) : CallH Tryd.prog n_law01_EntryBack [v0, v1] Hh fun v H' => Post (v = .bool true ∧ Fresh Hh H') := by
  obtain ⟨k, u, rfl, g0, g1, g2⟩ := fitA_ent h0
  obtain ⟨l, rfl⟩ := fitA_str h1
  have hz : l.toArray.size = l.length := List.size_toArray ..
  refine c_law01_EntryBack ⟨rfl, ?_⟩
  have f0 : Fresh Hh (Hh.new 27 [i64 k, u64 u]) := (Ext.refl _ _).new _ _
  have b0 := own_new Hh 27 [i64 k, u64 u]
  simp (disch := (first | omega | (simp only [size_new, size_newm, size_wr, size_wrm] <;> omega) | fail)) only [go_sem, Nat.reduceBEq, Nat.reduceAdd, Nat.reduceMul, Nat.reduceLeDiff, ↓reduceIte, rd_new_lt, own_new_lt, mp_new_lt, rd_newm_lt, own_newm_lt, mp_newm_lt, rd_wr_ne, own_wr_ne, mp_wr_ne, rd_wrm_ne, own_wrm_ne, mp_wrm_ne, rd_new_eq, own_new_eq, mp_newm_eq, s_law01_EntryBack]
  generalize Hh.new 27 [i64 k, u64 u] = H0 at *
  refine (law01_entryAlive_spec (he.fresh f0).tab).mono ?_
  rintro _ H1 ⟨rfl, f1⟩
  have b1 := f1.own b0 (fun h => h)
  have e1 := (he.fresh f0).fresh f1
  simp (disch := (first | omega | (simp only [size_new, size_newm, size_wr, size_wrm] <;> omega) | fail)) only [go_sem, Nat.reduceBEq, Nat.reduceAdd, Nat.reduceMul, Nat.reduceLeDiff, ↓reduceIte, rd_new_lt, own_new_lt, mp_new_lt, rd_newm_lt, own_newm_lt, mp_newm_lt, rd_wr_ne, own_wr_ne, mp_wr_ne, rd_wrm_ne, own_wrm_ne, mp_wrm_ne, rd_new_eq, own_new_eq, mp_newm_eq]
  refine Both.dec (fun h3 => ?_) (fun h3 => ?_) <;> simp (disch := (first | omega | (simp only [size_new, size_newm, size_wr, size_wrm] <;> omega) | fail)) only [go_sem, Nat.reduceBEq, Nat.reduceAdd, Nat.reduceMul, Nat.reduceLeDiff, ↓reduceIte, rd_new_lt, own_new_lt, mp_new_lt, rd_newm_lt, own_newm_lt, mp_newm_lt, rd_wr_ne, own_wr_ne, mp_wr_ne, rd_wrm_ne, own_wrm_ne, mp_wrm_ne, rd_new_eq, own_new_eq, mp_newm_eq]
  · exact ⟨rfl, f0.trans f1⟩
  simp (disch := (first | omega | (simp only [size_new, size_newm, size_wr, size_wrm] <;> omega) | fail)) only [go_sem, Nat.reduceBEq, Nat.reduceAdd, Nat.reduceMul, Nat.reduceLeDiff, ↓reduceIte, rd_new_lt, own_new_lt, mp_new_lt, rd_newm_lt, own_newm_lt, mp_newm_lt, rd_wr_ne, own_wr_ne, mp_wr_ne, rd_wrm_ne, own_wrm_ne, mp_wrm_ne, rd_new_eq, own_new_eq, mp_newm_eq, rd_of_own b1]
  refine (entry_Text_spec e1.tab g0 g1 g2).mono ?_
  rintro _ H2 ⟨rfl, f2⟩
  have e2 := e1.fresh f2
  simp (disch := (first | omega | (simp only [size_new, size_newm, size_wr, size_wrm] <;> omega) | fail)) only [go_sem, Nat.reduceBEq, Nat.reduceAdd, Nat.reduceMul, Nat.reduceLeDiff, ↓reduceIte, rd_new_lt, own_new_lt, mp_new_lt, rd_newm_lt, own_newm_lt, mp_newm_lt, rd_wr_ne, own_wr_ne, mp_wr_ne, rd_wrm_ne, own_wrm_ne, mp_wrm_ne, rd_new_eq, own_new_eq, mp_newm_eq]
  have hl := textE_len g0 g1 g2
  refine (entry_Parse_spec e2 (textE k u) (by omega)).mono ?_
  rintro _ H3 ⟨f3, ⟨k', u', a0, a1, a2, a3, rfl⟩ | ⟨a3, _⟩⟩
  rotate_left
  · exact absurd rfl (a3 k u g0 g1 g2)
  obtain ⟨rfl, rfl⟩ := textE_inj' g0 g1 a0 a1 a3
  clear a0 a1 a2 a3
  have e3 := e2.fresh f3
  have b3 := (f2.trans f3).own b1 (fun h => h)
  have fa : Fresh H3 ((H3.new 27 [i64 0, u64 0]).wr H3.size [i64 k, u64 u]) := ((Ext.refl _ _).new _ _).wr (fun h => absurd h (Nat.lt_irrefl _)) _
  have oa := own_wr_same (l := [i64 k, u64 u]) (own_new H3 27 [i64 0, u64 0])
  simp (disch := (first | omega | (simp only [size_new, size_newm, size_wr, size_wrm] <;> omega) | fail)) only [go_sem, Nat.reduceBEq, Nat.reduceAdd, Nat.reduceMul, Nat.reduceLeDiff, ↓reduceIte, rd_new_lt, own_new_lt, mp_new_lt, rd_newm_lt, own_newm_lt, mp_newm_lt, rd_wr_ne, own_wr_ne, mp_wr_ne, rd_wrm_ne, own_wrm_ne, mp_wrm_ne, rd_new_eq, own_new_eq, mp_newm_eq]
  generalize (H3.new 27 [i64 0, u64 0]).wr H3.size [i64 k, u64 u] = H4 at *
  have b4 := fa.own b3 (fun h => h)
  have e4 := e3.fresh fa
  refine (entry_Parse_spec e4 l (by omega)).mono ?_
  rintro vP H5 ⟨f5, hP⟩
  obtain ⟨y, z, g, rfl, hg⟩ : ∃ (y z : Int) (g : Int), vP = .tuple [ent y z, i64 g].toArray ∧ (g = 0 → -9223372036854775808 ≤ y ∧ y ≤ 9223372036854775807 ∧ ∃ z' : Nat, z = z' ∧ z' < 18446744073709551616 ∧ l = textE y z') := by
    rcases hP with ⟨y, z, c0, c1, c2, c3, rfl⟩ | ⟨_, rfl⟩
    · exact ⟨y, z, 0, rfl, fun _ => ⟨c0, c1, z, rfl, c2, c3⟩⟩
    · exact ⟨0, 0, 11, rfl, fun h => absurd h (by decide)⟩
  have e5 := e4.fresh f5
  have b5 := f5.own b4 (fun h => h)
  have o5 := f5.own oa (fun h => h)
  have fb : Fresh H5 ((H5.new 27 [i64 0, u64 0]).wr H5.size [i64 y, u64 z]) := ((Ext.refl _ _).new _ _).wr (fun h => absurd h (Nat.lt_irrefl _)) _
  have ob := own_wr_same (l := [i64 y, u64 z]) (own_new H5 27 [i64 0, u64 0])
  simp (disch := (first | omega | (simp only [size_new, size_newm, size_wr, size_wrm] <;> omega) | fail)) only [go_sem, Nat.reduceBEq, Nat.reduceAdd, Nat.reduceMul, Nat.reduceLeDiff, ↓reduceIte, rd_new_lt, own_new_lt, mp_new_lt, rd_newm_lt, own_newm_lt, mp_newm_lt, rd_wr_ne, own_wr_ne, mp_wr_ne, rd_wrm_ne, own_wrm_ne, mp_wrm_ne, rd_new_eq, own_new_eq, mp_newm_eq]
  generalize (H5.new 27 [i64 0, u64 0]).wr H5.size [i64 y, u64 z] = H6 at *
  have b6 := fb.own b5 (fun h => h)
  have o6 := fb.own o5 (fun h => h)
  have e6 := e5.fresh fb
  simp (disch := (first | omega | (simp only [size_new, size_newm, size_wr, size_wrm] <;> omega) | fail)) only [go_sem, Nat.reduceBEq, Nat.reduceAdd, Nat.reduceMul, Nat.reduceLeDiff, ↓reduceIte, rd_new_lt, own_new_lt, mp_new_lt, rd_newm_lt, own_newm_lt, mp_newm_lt, rd_wr_ne, own_wr_ne, mp_wr_ne, rd_wrm_ne, own_wrm_ne, mp_wrm_ne, rd_new_eq, own_new_eq, mp_newm_eq, rd_of_own b6]
  refine (entry_Digits_spec e6.tab g0 g1).mono ?_
  rintro _ H7 ⟨rfl, f7⟩
  have e7 := e6.fresh f7
  have hl2 := itoa_len g0 g1
  simp (disch := (first | omega | (simp only [size_new, size_newm, size_wr, size_wrm] <;> omega) | fail)) only [go_sem, Nat.reduceBEq, Nat.reduceAdd, Nat.reduceMul, Nat.reduceLeDiff, ↓reduceIte, rd_new_lt, own_new_lt, mp_new_lt, rd_newm_lt, own_newm_lt, mp_newm_lt, rd_wr_ne, own_wr_ne, mp_wr_ne, rd_wrm_ne, own_wrm_ne, mp_wrm_ne, rd_new_eq, own_new_eq, mp_newm_eq]
  refine (entry_Number_spec e7 (Lib.itoa k) (by omega)).mono ?_
  rintro _ H8 ⟨f8, ⟨n, d0, d1, d2, rfl⟩ | ⟨d2, _⟩⟩
  rotate_left
  · exact absurd rfl (d2 k g0 g1)
  obtain rfl := itoa_inj g0 g1 d0 d1 d2
  have e8 := e7.fresh f8
  have b8 := (f7.trans f8).own b6 (fun h => h)
  have o8 := (f7.trans f8).own o6 (fun h => h)
  have p8 := (f7.trans f8).own ob (fun h => h)
  simp (disch := (first | omega | (simp only [size_new, size_newm, size_wr, size_wrm] <;> omega) | fail)) only [go_sem, Nat.reduceBEq, Nat.reduceAdd, Nat.reduceMul, Nat.reduceLeDiff, ↓reduceIte, rd_new_lt, own_new_lt, mp_new_lt, rd_newm_lt, own_newm_lt, mp_newm_lt, rd_wr_ne, own_wr_ne, mp_wr_ne, rd_wrm_ne, own_wrm_ne, mp_wrm_ne, rd_new_eq, own_new_eq, mp_newm_eq, decide_true, rd_of_own b8, rd_of_own o8, rd_of_own p8, ent_eq2, Option.map_some]
  have f08 : Fresh Hh H8 := f0.trans (f1.trans (f2.trans (f3.trans (fa.trans (f5.trans (fb.trans (f7.trans f8)))))))
  refine Both.dec (fun hg0 => ?_) (fun hg0 => ?_) <;> simp (disch := (first | omega | (simp only [size_new, size_newm, size_wr, size_wrm] <;> omega) | fail)) only [go_sem, Nat.reduceBEq, Nat.reduceAdd, Nat.reduceMul, Nat.reduceLeDiff, ↓reduceIte, rd_new_lt, own_new_lt, mp_new_lt, rd_newm_lt, own_newm_lt, mp_newm_lt, rd_wr_ne, own_wr_ne, mp_wr_ne, rd_wrm_ne, own_wrm_ne, mp_wrm_ne, rd_new_eq, own_new_eq, mp_newm_eq, rd_of_own p8]
  · obtain ⟨y0, y1, z', rfl, z1, rfl⟩ := hg hg0
    refine (entry_Text_spec e8.tab y0 y1 z1).mono ?_
    rintro _ H9 ⟨rfl, f9⟩
    have b9 := f9.own b8 (fun h => h)
    simp (disch := (first | omega | (simp only [size_new, size_newm, size_wr, size_wrm] <;> omega) | fail)) only [go_sem, Nat.reduceBEq, Nat.reduceAdd, Nat.reduceMul, Nat.reduceLeDiff, ↓reduceIte, rd_new_lt, own_new_lt, mp_new_lt, rd_newm_lt, own_newm_lt, mp_newm_lt, rd_wr_ne, own_wr_ne, mp_wr_ne, rd_wrm_ne, own_wrm_ne, mp_wrm_ne, rd_new_eq, own_new_eq, mp_newm_eq, eq_bytes, decide_true, rd_of_own b9]
    refine ⟨_, (entry_Turn_spec g0 g1 H9).mono (by rintro _ _ ⟨rfl, rfl⟩; exact ⟨rfl, rfl⟩), _, (entry_Turn_spec (n := -1 - k) (by omega) (by omega) H9).mono (by rintro _ _ ⟨rfl, rfl⟩; exact ⟨rfl, rfl⟩), ?_⟩
    simp (disch := (first | omega | (simp only [size_new, size_newm, size_wr, size_wrm] <;> omega) | fail)) only [go_sem, Nat.reduceBEq, Nat.reduceAdd, Nat.reduceMul, Nat.reduceLeDiff, ↓reduceIte, rd_new_lt, own_new_lt, mp_new_lt, rd_newm_lt, own_newm_lt, mp_newm_lt, rd_wr_ne, own_wr_ne, mp_wr_ne, rd_wrm_ne, own_wrm_ne, mp_wrm_ne, rd_new_eq, own_new_eq, mp_newm_eq, decide_true]
    exact ⟨by simp [tup]; omega, f08.trans f9⟩
  · simp (disch := (first | omega | (simp only [size_new, size_newm, size_wr, size_wrm] <;> omega) | fail)) only [go_sem, Nat.reduceBEq, Nat.reduceAdd, Nat.reduceMul, Nat.reduceLeDiff, ↓reduceIte, rd_new_lt, own_new_lt, mp_new_lt, rd_newm_lt, own_newm_lt, mp_newm_lt, rd_wr_ne, own_wr_ne, mp_wr_ne, rd_wrm_ne, own_wrm_ne, mp_wrm_ne, rd_new_eq, own_new_eq, mp_newm_eq, decide_true, rd_of_own b8]
    refine ⟨_, (entry_Turn_spec g0 g1 H8).mono (by rintro _ _ ⟨rfl, rfl⟩; exact ⟨rfl, rfl⟩), _, (entry_Turn_spec (n := -1 - k) (by omega) (by omega) H8).mono (by rintro _ _ ⟨rfl, rfl⟩; exact ⟨rfl, rfl⟩), ?_⟩
    simp (disch := (first | omega | (simp only [size_new, size_newm, size_wr, size_wrm] <;> omega) | fail)) only [go_sem, Nat.reduceBEq, Nat.reduceAdd, Nat.reduceMul, Nat.reduceLeDiff, ↓reduceIte, rd_new_lt, own_new_lt, mp_new_lt, rd_newm_lt, own_newm_lt, mp_newm_lt, rd_wr_ne, own_wr_ne, mp_wr_ne, rd_wrm_ne, own_wrm_ne, mp_wrm_ne, rd_new_eq, own_new_eq, mp_newm_eq, decide_true]
    exact ⟨by simp [tup]; omega, f08⟩

end Go.Proofs.YtapoboiofpmheaaDoor
