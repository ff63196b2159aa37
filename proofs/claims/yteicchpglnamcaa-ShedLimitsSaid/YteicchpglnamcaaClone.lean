/-
  slices.Clone, and all things of a row.
-/
import Derived.Test.YteicchpglnamcaaAdd
set_option linter.unusedVariables false
set_option linter.unusedSimpArgs false
namespace Go.Proofs.Yteicchpglnamcaa
open Go Go.Vc

theorem slices_Clone_spec {H : Hp} {v : Value} {n : Nat} {xs : List Int} (h : RdS H 1 v n (xs.map i64)) (hn : n ≤ 1000000) :
    CallH Try.prog n_slices_Clone_int_int [v] H fun r H' => Post (Fresh H H' ∧ ∃ fp, Sl H' 1 r n (xs.map i64) fp ∧ ∀ b, fp = some b → H.size ≤ b ∧ b < H'.size) := by
  refine c_slices_Clone_int_int ⟨rfl, ?_⟩
  have hv : ∃ a c, v = .slice a n c := by
    obtain ⟨_, ⟨rfl, a, c, rfl⟩ | ⟨b, o, c, l, rfl, _⟩⟩ := h
    · exact ⟨_, _, rfl⟩
    · exact ⟨_, _, rfl⟩
  obtain ⟨a, c, rfl⟩ := hv
  simp (disch := (first | omega | (simp only [size_new, size_newm, size_wr, size_wrm] <;> omega) | fail)) only [go_sem, Nat.reduceBEq, Nat.reduceAdd, Nat.reduceMul, Nat.reduceLeDiff, ↓reduceIte, rd_new_lt, own_new_lt, mp_new_lt, rd_newm_lt, own_newm_lt, mp_newm_lt, rd_wr_ne, own_wr_ne, mp_wr_ne, rd_wrm_ne, own_wrm_ne, mp_wrm_ne, rd_new_eq, own_new_eq, mp_newm_eq, s_slices_Clone_int_int]
  cases a with
  | none =>
    have hn0 : n = 0 := by
      obtain ⟨_, ⟨rfl, _⟩ | ⟨b, o, c, l, e, _⟩⟩ := h
      · rfl
      · cases e
    have hx : xs.map i64 = [] := List.length_eq_zero_iff.1 (by have := h.1; simpa [hn0] using this)
    simp (disch := (first | omega | (simp only [size_new, size_newm, size_wr, size_wrm] <;> omega) | fail)) only [go_sem, Nat.reduceBEq, Nat.reduceAdd, Nat.reduceMul, Nat.reduceLeDiff, ↓reduceIte, rd_new_lt, own_new_lt, mp_new_lt, rd_newm_lt, own_newm_lt, mp_newm_lt, rd_wr_ne, own_wr_ne, mp_wr_ne, rd_wrm_ne, own_wrm_ne, mp_wrm_ne, rd_new_eq, own_new_eq, mp_newm_eq, Option.isNone_none]
    rw [hx, hn0]
    exact ⟨Ext.refl _ _, none, Sl.nil H 1, fun b hb => by cases hb⟩
  | some ad =>
    simp (disch := (first | omega | (simp only [size_new, size_newm, size_wr, size_wrm] <;> omega) | fail)) only [go_sem, Nat.reduceBEq, Nat.reduceAdd, Nat.reduceMul, Nat.reduceLeDiff, ↓reduceIte, rd_new_lt, own_new_lt, mp_new_lt, rd_newm_lt, own_newm_lt, mp_newm_lt, rd_wr_ne, own_wr_ne, mp_wr_ne, rd_wrm_ne, own_wrm_ne, mp_wrm_ne, rd_new_eq, own_new_eq, mp_newm_eq, Option.isNone_some]
    have e0 : Ext (fun _ => False) H (H.new 3 []) := (Ext.refl _ H).new 3 []
    refine Sl.append (Sl.lit_at (size := 1) (n := 0) (xs := []) rfl rfl) (h.fresh e0) rfl (allOne_ints xs) (by omega) ?_
    intro v' H2 fp' hs hext hfp
    simp (disch := (first | omega | (simp only [size_new, size_newm, size_wr, size_wrm] <;> omega) | fail)) only [go_sem, Nat.reduceBEq, Nat.reduceAdd, Nat.reduceMul, Nat.reduceLeDiff, ↓reduceIte, rd_new_lt, own_new_lt, mp_new_lt, rd_newm_lt, own_newm_lt, mp_newm_lt, rd_wr_ne, own_wr_ne, mp_wr_ne, rd_wrm_ne, own_wrm_ne, mp_wrm_ne, rd_new_eq, own_new_eq, mp_newm_eq]
    refine ⟨Ext.trans' e0 hext (fun z hz hzs => by injection hzs with hzs; omega), fp', by simpa [tup] using hs, ?_⟩
    intro z hz
    have hsz := hext.size
    rw [size_new] at hsz
    rcases hfp with h | ⟨y, h, h5, h6⟩
    · rw [h] at hz; injection hz with hz; omega
    · rw [h] at hz; injection hz with hz; subst hz; rw [size_new] at h5; omega

theorem sift_All_spec {H : Hp} {r : Nat} {S : Nat → Prop} {d : Int} {l : List Int} {pl : Int → Option Int} (h : RowAt H r S d l pl) (hl : l.length ≤ 1000000) :
    CallH Try.prog n_sift_Row_All [ptr r] H fun v H' => Post (Fresh H H' ∧ ∃ fp, Sl H' 1 v l.length (l.map i64) fp ∧ ∀ b, fp = some b → H.size ≤ b ∧ b < H'.size) := by
  obtain ⟨⟨sv, fp, mb, a1, a2, a3, s1, s2, s3, s4⟩, h2⟩ := h
  refine c_sift_Row_All ⟨rfl, ?_⟩
  simp (disch := (first | omega | (simp only [size_new, size_newm, size_wr, size_wrm] <;> omega) | fail)) only [go_sem, Nat.reduceBEq, Nat.reduceAdd, Nat.reduceMul, Nat.reduceLeDiff, ↓reduceIte, rd_new_lt, own_new_lt, mp_new_lt, rd_newm_lt, own_newm_lt, mp_newm_lt, rd_wr_ne, own_wr_ne, mp_wr_ne, rd_wrm_ne, own_wrm_ne, mp_wrm_ne, rd_new_eq, own_new_eq, mp_newm_eq, s_sift_Row_All, rd_of_own a1]
  refine (slices_Clone_spec a2.rd hl).mono ?_
  rintro _ H2 ⟨h1, h3⟩
  simp (disch := (first | omega | (simp only [size_new, size_newm, size_wr, size_wrm] <;> omega) | fail)) only [go_sem, Nat.reduceBEq, Nat.reduceAdd, Nat.reduceMul, Nat.reduceLeDiff, ↓reduceIte, rd_new_lt, own_new_lt, mp_new_lt, rd_newm_lt, own_newm_lt, mp_newm_lt, rd_wr_ne, own_wr_ne, mp_wr_ne, rd_wrm_ne, own_wrm_ne, mp_wrm_ne, rd_new_eq, own_new_eq, mp_newm_eq]
  exact ⟨h1, h3⟩

end Go.Proofs.Yteicchpglnamcaa
