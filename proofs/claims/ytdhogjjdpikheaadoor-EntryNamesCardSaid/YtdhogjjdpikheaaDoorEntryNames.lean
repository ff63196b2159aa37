/-
  The law EntryNames answers true.
-/
import Derived.Test.YtdhogjjdpikheaaDoorEnt01
import Derived.Test.YtdhogjjdpikheaaDoorNums
set_option linter.unusedVariables false
set_option linter.unusedSimpArgs false
namespace Go.Proofs.YtdhogjjdpikheaaDoor
open Go Go.Vc

theorem dec_lo : Lib.decDigits 9223372036854775808 = [57, 50, 50, 51, 51, 55, 50, 48, 51, 54, 56, 53, 52, 55, 55, 53, 56, 48, 56] :=
  canon_dec [57, 50, 50, 51, 51, 55, 50, 48, 51, 54, 56, 53, 52, 55, 55, 53, 56, 48, 56] ⟨by decide, by unfold Dig; decide, fun _ c hc => by simp only [List.head?_cons, Option.some.injEq] at hc; subst hc; decide⟩
theorem dec_hi : Lib.decDigits 18446744073709551615 = [49, 56, 52, 52, 54, 55, 52, 52, 48, 55, 51, 55, 48, 57, 53, 53, 49, 54, 49, 53] :=
  canon_dec [49, 56, 52, 52, 54, 55, 52, 52, 48, 55, 51, 55, 48, 57, 53, 53, 49, 54, 49, 53] ⟨by decide, by unfold Dig; decide, fun _ c hc => by simp only [List.head?_cons, Option.some.injEq] at hc; subst hc; decide⟩

theorem text_lo : textE (-9223372036854775808) 18446744073709551615 = [45, 57, 50, 50, 51, 51, 55, 50, 48, 51, 54, 56, 53, 52, 55, 55, 53, 56, 48, 56, 35, 49, 56, 52, 52, 54, 55, 52, 52, 48, 55, 51, 55, 48, 57, 53, 53, 49, 54, 49, 53] := by
  rw [textE_at, show Lib.itoa (-9223372036854775808) = 45 :: Lib.decDigits 9223372036854775808 from Lib.itoa_neg 9223372036854775808 (by omega), dec_lo, dec_hi]
  rfl

theorem textE_inj {k k' : Int} {u u' : Nat} (h0 : -9223372036854775808 ≤ k) (h1 : k ≤ 9223372036854775807) (h2 : -9223372036854775808 ≤ k') (h3 : k' ≤ 9223372036854775807) (h : textE k u = textE k' u') : k = k' ∧ u = u' := by
  rw [textE_at, textE_at] at h
  obtain ⟨a, b⟩ := split35 (no35_itoa k) (no35_itoa k') h
  exact ⟨itoa_inj h0 h1 h2 h3 a, dec_inj b⟩

theorem ent_eqVs2 (k s k' s' : Int) : eqVs [(0, (none, .int)), (1, (none, .int))] [i64 k, u64 s] [i64 k', u64 s'] = some (decide (k = k') && decide (s = s')) := by
  by_cases h1 : k = k' <;> by_cases h2 : s = s' <;> simp [eqVs, partL, eqV, simpleEq, h1, h2]

theorem law01_EntryNames_args {Hh : Hp} (he : ErrH Hh) : CallH Tryd.prog n_law01_EntryNames [] Hh fun v H' => Post (v = .bool true ∧ Fresh Hh H') := by
  refine c_law01_EntryNames ⟨rfl, ?_⟩
  simp (disch := (first | omega | (simp only [size_new, size_newm, size_wr, size_wrm] <;> omega) | fail)) only [go_sem, Nat.reduceBEq, Nat.reduceAdd, Nat.reduceMul, Nat.reduceLeDiff, ↓reduceIte, rd_new_lt, own_new_lt, mp_new_lt, rd_newm_lt, own_newm_lt, mp_newm_lt, rd_wr_ne, own_wr_ne, mp_wr_ne, rd_wrm_ne, own_wrm_ne, mp_wrm_ne, rd_new_eq, own_new_eq, mp_newm_eq, s_law01_EntryNames]
  refine (entry_Parse_spec he [55] (by decide)).mono ?_
  rintro _ H1 ⟨f1, ⟨k, u, _, _, _, h, _⟩ | ⟨_, rfl⟩⟩
  · exfalso
    have : (35 : UInt8) ∈ textE k u := by rw [textE_at]; simp
    rw [← h] at this
    revert this
    decide
  have fa : Fresh H1 ((H1.new 24 [i64 0, u64 0]).wr H1.size [i64 0, u64 0]) := ((Ext.refl _ _).new _ _).wr (fun h => absurd h (Nat.lt_irrefl _)) _
  simp (disch := (first | omega | (simp only [size_new, size_newm, size_wr, size_wrm] <;> omega) | fail)) only [go_sem, Nat.reduceBEq, Nat.reduceAdd, Nat.reduceMul, Nat.reduceLeDiff, ↓reduceIte, rd_new_lt, own_new_lt, mp_new_lt, rd_newm_lt, own_newm_lt, mp_newm_lt, rd_wr_ne, own_wr_ne, mp_wr_ne, rd_wrm_ne, own_wrm_ne, mp_wrm_ne, rd_new_eq, own_new_eq, mp_newm_eq]
  generalize (H1.new 24 [i64 0, u64 0]).wr H1.size [i64 0, u64 0] = H2 at *
  refine (entry_Parse_spec ((he.fresh f1).fresh fa) [45, 57, 50, 50, 51, 51, 55, 50, 48, 51, 54, 56, 53, 52, 55, 55, 53, 56, 48, 56, 35, 49, 56, 52, 52, 54, 55, 52, 52, 48, 55, 51, 55, 48, 57, 53, 53, 49, 54, 49, 53] (by decide)).mono ?_
  rintro _ H3 ⟨f3, hP⟩
  rcases hP.symm with ⟨h, rfl⟩ | ⟨k, u, g0, g1, g2, h, rfl⟩
  · exact absurd text_lo.symm (h _ _ (by omega) (by omega) (by omega))
  rw [← text_lo] at h
  obtain ⟨rfl, rfl⟩ := textE_inj (by omega) (by omega) g0 g1 h
  have fb : Fresh H3 ((H3.new 24 [i64 0, u64 0]).wr H3.size [i64 (-9223372036854775808), u64 (18446744073709551615 : Nat)]) := ((Ext.refl _ _).new _ _).wr (fun h => absurd h (Nat.lt_irrefl _)) _
  have ob := own_wr_same (l := [i64 (-9223372036854775808), u64 (18446744073709551615 : Nat)]) (own_new H3 24 [i64 0, u64 0])
  simp (disch := (first | omega | (simp only [size_new, size_newm, size_wr, size_wrm] <;> omega) | fail)) only [go_sem, Nat.reduceBEq, Nat.reduceAdd, Nat.reduceMul, Nat.reduceLeDiff, ↓reduceIte, rd_new_lt, own_new_lt, mp_new_lt, rd_newm_lt, own_newm_lt, mp_newm_lt, rd_wr_ne, own_wr_ne, mp_wr_ne, rd_wrm_ne, own_wrm_ne, mp_wrm_ne, rd_new_eq, own_new_eq, mp_newm_eq]
  generalize (H3.new 24 [i64 0, u64 0]).wr H3.size [i64 (-9223372036854775808), u64 (18446744073709551615 : Nat)] = H4 at *
  refine (law01_entryAlive_spec ((((he.fresh f1).fresh fa).fresh f3).fresh fb).tab).mono ?_
  rintro _ H5 ⟨rfl, f5⟩
  have o5 := f5.own ob (fun h => h)
  simp (disch := (first | omega | (simp only [size_new, size_newm, size_wr, size_wrm] <;> omega) | fail)) only [go_sem, Nat.reduceBEq, Nat.reduceAdd, Nat.reduceMul, Nat.reduceLeDiff, ↓reduceIte, rd_new_lt, own_new_lt, mp_new_lt, rd_newm_lt, own_newm_lt, mp_newm_lt, rd_wr_ne, own_wr_ne, mp_wr_ne, rd_wrm_ne, own_wrm_ne, mp_wrm_ne, rd_new_eq, own_new_eq, mp_newm_eq, decide_true, rd_of_own o5, ent_eqVs2, Option.map_some]
  exact ⟨by simp [tup], ((((f1.trans fa).trans f3).trans fb).trans f5)⟩

end Go.Proofs.YtdhogjjdpikheaaDoor
