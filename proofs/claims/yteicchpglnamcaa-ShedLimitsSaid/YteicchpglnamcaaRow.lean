/-
  The package sift: rows of things: what each function does to a row.
-/
import Derived.Test.YteicchpglnamcaaSift
import Derived.Test.YteicchpglnamcaaCells2
set_option linter.unusedVariables false
set_option linter.unusedSimpArgs false
namespace Go.Proofs.Yteicchpglnamcaa
open Go Go.Vc

/-- A row at block r, all of whose memory is S: how many children, its things, of each thing its place. -/
structure RowAt (H : Hp) (r : Nat) (S : Nat → Prop) (d : Int) (l : List Int) (pl : Int → Option Int) : Prop where
  rep : ∃ sv fp mb, H.own r = some [i64 d, sv, .map (some mb)] ∧ Sl H 1 sv l.length (l.map i64) fp ∧ IMap H mb (fun i => (pl i).map i64) ∧
    S r ∧ S mb ∧ r ≠ mb ∧ (∀ b, fp = some b → S b ∧ b ≠ r ∧ b ≠ mb)
  slt : ∀ x, S x → x < H.size

theorem RowAt.ext {H H' : Hp} {r : Nat} {S T : Nat → Prop} {d : Int} {l : List Int} {pl : Int → Option Int} (h : RowAt H r S d l pl) (e : Ext T H H') (hd : ∀ x, S x → ¬ T x) : RowAt H' r S d l pl := by
  obtain ⟨⟨sv, fp, mb, a1, a2, a3, s1, s2, s3, s4⟩, h2⟩ := h
  exact ⟨⟨sv, fp, mb, e.own a1 (hd _ s1), a2.ext e (fun b hb => hd _ (s4 b hb).1), a3.ext e (hd _ s2), s1, s2, s3, s4⟩, fun x hx => Nat.lt_of_lt_of_le (h2 x hx) e.size⟩

theorem sift_New_spec (d : Int) (H : Hp) : CallH Try.prog n_sift_New [i64 d] H fun v H' => Post (
    Fresh H H' ∧ ((¬ FineD d ∧ v = .tuple [.pointer none, i64 22].toArray) ∨
      FineD d ∧ ∃ r S, v = .tuple [ptr r, i64 0].toArray ∧ RowAt H' r S d [] (fun _ => none) ∧ ∀ x, S x → H.size ≤ x)) := by
  refine c_sift_New ⟨rfl, ?_⟩
  simp (disch := (first | omega | (simp only [size_new, size_newm, size_wr, size_wrm] <;> omega) | fail)) only [go_sem, Nat.reduceBEq, Nat.reduceAdd, Nat.reduceMul, Nat.reduceLeDiff, ↓reduceIte, rd_new_lt, own_new_lt, mp_new_lt, rd_newm_lt, own_newm_lt, mp_newm_lt, rd_wr_ne, own_wr_ne, mp_wr_ne, rd_wrm_ne, own_wrm_ne, mp_wrm_ne, rd_new_eq, own_new_eq, mp_newm_eq, s_sift_New]
  refine (sift_fine_spec d H).mono ?_
  rintro _ _ ⟨rfl, rfl⟩
  simp (disch := (first | omega | (simp only [size_new, size_newm, size_wr, size_wrm] <;> omega) | fail)) only [go_sem, Nat.reduceBEq, Nat.reduceAdd, Nat.reduceMul, Nat.reduceLeDiff, ↓reduceIte, rd_new_lt, own_new_lt, mp_new_lt, rd_newm_lt, own_newm_lt, mp_newm_lt, rd_wr_ne, own_wr_ne, mp_wr_ne, rd_wrm_ne, own_wrm_ne, mp_wrm_ne, rd_new_eq, own_new_eq, mp_newm_eq]
  refine Both.dec (fun h => ?_) (fun h => ?_) <;> simp (disch := (first | omega | (simp only [size_new, size_newm, size_wr, size_wrm] <;> omega) | fail)) only [go_sem, Nat.reduceBEq, Nat.reduceAdd, Nat.reduceMul, Nat.reduceLeDiff, ↓reduceIte, rd_new_lt, own_new_lt, mp_new_lt, rd_newm_lt, own_newm_lt, mp_newm_lt, rd_wr_ne, own_wr_ne, mp_wr_ne, rd_wrm_ne, own_wrm_ne, mp_wrm_ne, rd_new_eq, own_new_eq, mp_newm_eq]
  · have e1 : Fresh H (H.newm.new 118 [i64 d, .slice none 0 0, .map (some H.size)]) := ((Ext.refl _ _).newm).new _ _
    refine ⟨e1, .inr ⟨h, H.size + 1, fun x => H.size ≤ x ∧ x < H.size + 1 + 1, rfl, ⟨⟨_, none, H.size, own_new_eq (by simp only [size_newm]), Sl.nil _ _, ?_, ?_, ?_, ?_, ?_⟩, ?_⟩, fun x hx => hx.1⟩⟩
    · exact (IMap.new H).ext ((Ext.refl (fun _ => False) _).new _ _) (fun h => h)
    · omega
    · omega
    · omega
    · intro b hb; cases hb
    · intro x hx
      simp only [size_new, size_newm]
      exact hx.2
  · exact ⟨Ext.refl _ _, .inl ⟨h, rfl⟩⟩

theorem sift_Len_spec {H : Hp} {r : Nat} {S : Nat → Prop} {d : Int} {l : List Int} {pl : Int → Option Int} (h : RowAt H r S d l pl) :
    CallH Try.prog n_sift_Row_Len [ptr r] H fun v H' => Post (v = i64 l.length ∧ H = H') := by
  obtain ⟨⟨sv, fp, mb, a1, a2, a3, s1, s2, s3, s4⟩, h2⟩ := h
  refine c_sift_Row_Len ⟨rfl, ?_⟩
  cases fp with
  | none =>
    obtain ⟨_, e, rfl⟩ := a2
    simp (disch := (first | omega | (simp only [size_new, size_newm, size_wr, size_wrm] <;> omega) | fail)) only [go_sem, Nat.reduceBEq, Nat.reduceAdd, Nat.reduceMul, Nat.reduceLeDiff, ↓reduceIte, rd_new_lt, own_new_lt, mp_new_lt, rd_newm_lt, own_newm_lt, mp_newm_lt, rd_wr_ne, own_wr_ne, mp_wr_ne, rd_wrm_ne, own_wrm_ne, mp_wrm_ne, rd_new_eq, own_new_eq, mp_newm_eq, s_sift_Row_Len, rd_of_own a1]
    exact ⟨by rw [e]; rfl, rfl⟩
  | some b =>
    obtain ⟨_, l', c, rfl, a4⟩ := a2
    simp (disch := (first | omega | (simp only [size_new, size_newm, size_wr, size_wrm] <;> omega) | fail)) only [go_sem, Nat.reduceBEq, Nat.reduceAdd, Nat.reduceMul, Nat.reduceLeDiff, ↓reduceIte, rd_new_lt, own_new_lt, mp_new_lt, rd_newm_lt, own_newm_lt, mp_newm_lt, rd_wr_ne, own_wr_ne, mp_wr_ne, rd_wrm_ne, own_wrm_ne, mp_wrm_ne, rd_new_eq, own_new_eq, mp_newm_eq, s_sift_Row_Len, rd_of_own a1]
    exact ⟨rfl, rfl⟩

theorem sift_At_spec {H : Hp} {r : Nat} {S : Nat → Prop} {d : Int} {l : List Int} {pl : Int → Option Int} (h : RowAt H r S d l pl) (i : Int) :
    CallH Try.prog n_sift_Row_At [ptr r, i64 i] H fun v H' => Post (v = twoF (if 0 ≤ i then l[i.toNat]? else none) ∧ H = H') := by
  obtain ⟨⟨sv, fp, mb, a1, a2, a3, s1, s2, s3, s4⟩, h2⟩ := h
  refine c_sift_Row_At ⟨rfl, ?_⟩
  simp (disch := (first | omega | (simp only [size_new, size_newm, size_wr, size_wrm] <;> omega) | fail)) only [go_sem, Nat.reduceBEq, Nat.reduceAdd, Nat.reduceMul, Nat.reduceLeDiff, ↓reduceIte, rd_new_lt, own_new_lt, mp_new_lt, rd_newm_lt, own_newm_lt, mp_newm_lt, rd_wr_ne, own_wr_ne, mp_wr_ne, rd_wrm_ne, own_wrm_ne, mp_wrm_ne, rd_new_eq, own_new_eq, mp_newm_eq, s_sift_Row_At]
  refine Both.dec (fun h => ?_) (fun h => ?_) <;> simp (disch := (first | omega | (simp only [size_new, size_newm, size_wr, size_wrm] <;> omega) | fail)) only [go_sem, Nat.reduceBEq, Nat.reduceAdd, Nat.reduceMul, Nat.reduceLeDiff, ↓reduceIte, rd_new_lt, own_new_lt, mp_new_lt, rd_newm_lt, own_newm_lt, mp_newm_lt, rd_wr_ne, own_wr_ne, mp_wr_ne, rd_wrm_ne, own_wrm_ne, mp_wrm_ne, rd_new_eq, own_new_eq, mp_newm_eq, rd_of_own a1]
  · exact ⟨by rw [if_neg (by omega)]; rfl, rfl⟩
  · cases fp with
    | none =>
      obtain ⟨_, e, rfl⟩ := a2
      have hl : l = [] := List.length_eq_zero_iff.1 e
      subst hl
      simp (disch := (first | omega | (simp only [size_new, size_newm, size_wr, size_wrm] <;> omega) | fail)) only [go_sem, Nat.reduceBEq, Nat.reduceAdd, Nat.reduceMul, Nat.reduceLeDiff, ↓reduceIte, rd_new_lt, own_new_lt, mp_new_lt, rd_newm_lt, own_newm_lt, mp_newm_lt, rd_wr_ne, own_wr_ne, mp_wr_ne, rd_wrm_ne, own_wrm_ne, mp_wrm_ne, rd_new_eq, own_new_eq, mp_newm_eq]
      refine Both.of_true (by simp only [decide_eq_true_eq]; omega) ?_
      simp (disch := (first | omega | (simp only [size_new, size_newm, size_wr, size_wrm] <;> omega) | fail)) only [go_sem, Nat.reduceBEq, Nat.reduceAdd, Nat.reduceMul, Nat.reduceLeDiff, ↓reduceIte, rd_new_lt, own_new_lt, mp_new_lt, rd_newm_lt, own_newm_lt, mp_newm_lt, rd_wr_ne, own_wr_ne, mp_wr_ne, rd_wrm_ne, own_wrm_ne, mp_wrm_ne, rd_new_eq, own_new_eq, mp_newm_eq]
      exact ⟨by rw [if_pos (by omega)]; rfl, rfl⟩
    | some b =>
      obtain ⟨_, l', c, rfl, a4, a5, a6, a7⟩ := a2
      simp (disch := (first | omega | (simp only [size_new, size_newm, size_wr, size_wrm] <;> omega) | fail)) only [go_sem, Nat.reduceBEq, Nat.reduceAdd, Nat.reduceMul, Nat.reduceLeDiff, ↓reduceIte, rd_new_lt, own_new_lt, mp_new_lt, rd_newm_lt, own_newm_lt, mp_newm_lt, rd_wr_ne, own_wr_ne, mp_wr_ne, rd_wrm_ne, own_wrm_ne, mp_wrm_ne, rd_new_eq, own_new_eq, mp_newm_eq]
      refine Both.dec (fun h3 => ?_) (fun h3 => ?_) <;> simp (disch := (first | omega | (simp only [size_new, size_newm, size_wr, size_wrm] <;> omega) | fail)) only [go_sem, Nat.reduceBEq, Nat.reduceAdd, Nat.reduceMul, Nat.reduceLeDiff, ↓reduceIte, rd_new_lt, own_new_lt, mp_new_lt, rd_newm_lt, own_newm_lt, mp_newm_lt, rd_wr_ne, own_wr_ne, mp_wr_ne, rd_wrm_ne, own_wrm_ne, mp_wrm_ne, rd_new_eq, own_new_eq, mp_newm_eq, rd_of_own a1]
      · exact ⟨by rw [if_pos (by omega), List.getElem?_eq_none (by omega)]; rfl, rfl⟩
      · obtain ⟨x, hx⟩ : ∃ x, l[i.toNat]? = some x := ⟨_, List.getElem?_eq_getElem (by omega)⟩
        have hx2 : l'[i.toNat]? = some (i64 x) := by
          have h1 : (l.map i64)[i.toNat]? = some (i64 x) := by simp [hx]
          rw [← a7, List.getElem?_take_of_lt (by omega)] at h1
          exact h1
        refine ⟨by omega, ?_⟩
        simp (disch := (first | omega | (simp only [size_new, size_newm, size_wr, size_wrm] <;> omega) | fail)) only [go_sem, Nat.reduceBEq, Nat.reduceAdd, Nat.reduceMul, Nat.reduceLeDiff, ↓reduceIte, rd_new_lt, own_new_lt, mp_new_lt, rd_newm_lt, own_newm_lt, mp_newm_lt, rd_wr_ne, own_wr_ne, mp_wr_ne, rd_wrm_ne, own_wrm_ne, mp_wrm_ne, rd_new_eq, own_new_eq, mp_newm_eq, rd_of_own a4, Nat.mul_one, hx2]
        exact ⟨by rw [if_pos (by omega), hx]; rfl, rfl⟩

theorem sift_set_spec {H : Hp} {r : Nat} {S : Nat → Prop} {d : Int} {l : List Int} {pl : Int → Option Int} (h : RowAt H r S d l pl) (i x : Int) (hi : 0 ≤ i ∧ i < l.length) :
    CallH Try.prog n_sift_Row_set [ptr r, i64 i, i64 x] H fun v H' => Post (v = .tuple [].toArray ∧ RowAt H' r S d (l.set i.toNat x) (setM pl x i) ∧ Ext S H H') := by
  obtain ⟨⟨sv, fp, mb, a1, a2, a3, s1, s2, s3, s4⟩, h2⟩ := h
  refine c_sift_Row_set ⟨rfl, ?_⟩
  cases fp with
  | none => obtain ⟨_, e, _⟩ := a2; omega
  | some b =>
    have a2' := a2
    obtain ⟨_, l', c, rfl, a4, a5, a6, a7⟩ := a2
    simp (disch := (first | omega | (simp only [size_new, size_newm, size_wr, size_wrm] <;> omega) | fail)) only [go_sem, Nat.reduceBEq, Nat.reduceAdd, Nat.reduceMul, Nat.reduceLeDiff, ↓reduceIte, rd_new_lt, own_new_lt, mp_new_lt, rd_newm_lt, own_newm_lt, mp_newm_lt, rd_wr_ne, own_wr_ne, mp_wr_ne, rd_wrm_ne, own_wrm_ne, mp_wrm_ne, rd_new_eq, own_new_eq, mp_newm_eq, s_sift_Row_set, rd_of_own a1]
    refine ⟨by omega, ?_⟩
    simp (disch := (first | omega | (simp only [size_new, size_newm, size_wr, size_wrm] <;> omega) | fail)) only [go_sem, Nat.reduceBEq, Nat.reduceAdd, Nat.reduceMul, Nat.reduceLeDiff, ↓reduceIte, rd_new_lt, own_new_lt, mp_new_lt, rd_newm_lt, own_newm_lt, mp_newm_lt, rd_wr_ne, own_wr_ne, mp_wr_ne, rd_wrm_ne, own_wrm_ne, mp_wrm_ne, rd_new_eq, own_new_eq, mp_newm_eq, a4, Nat.mul_one]
    refine ⟨by omega, ?_⟩
    obtain ⟨hb1, hb2, hb3⟩ := s4 b rfl
    have e1 : Ext (fun z => z = b) H (H.wr b (l'.set i.toNat (i64 x))) := (Ext.refl (fun z => z = b) _).wr (fun _ => rfl) _
    have b1 := e1.own a1 (Ne.symm hb2)
    have b2 := a2'.set1 a4 i.toNat (i64 x)
    have b3 := a3.ext e1 (Ne.symm hb3)
    simp (disch := (first | omega | (simp only [size_new, size_newm, size_wr, size_wrm] <;> omega) | fail)) only [go_sem, Nat.reduceBEq, Nat.reduceAdd, Nat.reduceMul, Nat.reduceLeDiff, ↓reduceIte, rd_new_lt, own_new_lt, mp_new_lt, rd_newm_lt, own_newm_lt, mp_newm_lt, rd_wr_ne, own_wr_ne, mp_wr_ne, rd_wrm_ne, own_wrm_ne, mp_wrm_ne, rd_new_eq, own_new_eq, mp_newm_eq, rd_of_own b1]
    refine b3.upd fun H2 m2 e2 => ?_
    rw [setM_map] at m2
    simp (disch := (first | omega | (simp only [size_new, size_newm, size_wr, size_wrm] <;> omega) | fail)) only [go_sem, Nat.reduceBEq, Nat.reduceAdd, Nat.reduceMul, Nat.reduceLeDiff, ↓reduceIte, rd_new_lt, own_new_lt, mp_new_lt, rd_newm_lt, own_newm_lt, mp_newm_lt, rd_wr_ne, own_wr_ne, mp_wr_ne, rd_wrm_ne, own_wrm_ne, mp_wrm_ne, rd_new_eq, own_new_eq, mp_newm_eq]
    refine ⟨rfl, ⟨⟨_, some b, mb, by exact e2.own b1 s3, ?_, m2, s1, s2, s3, s4⟩, fun z hz => Nat.lt_of_lt_of_le (h2 z hz) (Nat.le_trans e1.size e2.size)⟩, (e1.mono fun z _ hz => hz ▸ hb1).trans (e2.mono fun z _ hz => hz ▸ s2)⟩
    rw [List.length_set, List.map_set]
    exact b2.ext e2 (fun z hz => by injection hz with hz; exact hz ▸ hb3)

end Go.Proofs.Yteicchpglnamcaa
