/-
  The package sift: one thing more.
-/
import Derived.Test.YteicchpglnamcaaUp
set_option linter.unusedVariables false
set_option linter.unusedSimpArgs false
namespace Go.Proofs.Yteicchpglnamcaa
open Go Go.Vc

theorem sift_Add_spec {ov : Value} {I : Hp → Nat → Prop} {T : Nat → Prop} {lt : Int → Int → Bool} {D : Int → Prop} (ho : OrdS ov I T lt D) {H : Hp} {r : Nat} {S : Nat → Prop} {d : Int} {l : List Int} {pl : Int → Option Int}
    (h : RowAt H r S d l pl) (hd : ∀ x, S x → ¬ T x) {n : Nat} (hI : I H n) (x : Int) (hl : l.length < 1000000) (hDx : D x := by trivial) (hD : ∀ z ∈ l, D z := by intros; trivial) :
    CallH Try.prog n_sift_Row_Add [ptr r, ov, i64 x] H fun v H' => Post (
      let R := upM lt d x l.length (l ++ [x]) pl l.length
      (pl x ≠ none ∧ v = .bool false ∧ H = H') ∨
      (pl x = none ∧ v = .bool true ∧ ∃ S', RowAt H' r S' d R.l R.pl ∧ I H' (n + R.asked) ∧ Ext (fun z => S z ∨ T z) H H' ∧ ∀ z, S' z → S z ∨ H.size ≤ z)) := by
  obtain ⟨⟨sv, fp, mb, a1, a2, a3, s1, s2, s3, s4⟩, h2⟩ := id h
  have key : okTuple true (Value.int .i64 0) ((pl x).map i64) = .tuple [i64 ((pl x).getD 0), .bool (pl x).isSome].toArray := by cases pl x <;> rfl
  refine c_sift_Row_Add ⟨rfl, ?_⟩
  simp (disch := (first | omega | (simp only [size_new, size_newm, size_wr, size_wrm] <;> omega) | fail)) only [go_sem, Nat.reduceBEq, Nat.reduceAdd, Nat.reduceMul, Nat.reduceLeDiff, ↓reduceIte, rd_new_lt, own_new_lt, mp_new_lt, rd_newm_lt, own_newm_lt, mp_newm_lt, rd_wr_ne, own_wr_ne, mp_wr_ne, rd_wrm_ne, own_wrm_ne, mp_wrm_ne, rd_new_eq, own_new_eq, mp_newm_eq, s_sift_Row_Add, rd_of_own a1, a3.look, key]
  cases hx : pl x with
  | some p =>
    simp (disch := (first | omega | (simp only [size_new, size_newm, size_wr, size_wrm] <;> omega) | fail)) only [go_sem, Nat.reduceBEq, Nat.reduceAdd, Nat.reduceMul, Nat.reduceLeDiff, ↓reduceIte, rd_new_lt, own_new_lt, mp_new_lt, rd_newm_lt, own_newm_lt, mp_newm_lt, rd_wr_ne, own_wr_ne, mp_wr_ne, rd_wrm_ne, own_wrm_ne, mp_wrm_ne, rd_new_eq, own_new_eq, mp_newm_eq, Option.isSome_some]
    exact .inl ⟨by simp, rfl, rfl⟩
  | none =>
    simp (disch := (first | omega | (simp only [size_new, size_newm, size_wr, size_wrm] <;> omega) | fail)) only [go_sem, Nat.reduceBEq, Nat.reduceAdd, Nat.reduceMul, Nat.reduceLeDiff, ↓reduceIte, rd_new_lt, own_new_lt, mp_new_lt, rd_newm_lt, own_newm_lt, mp_newm_lt, rd_wr_ne, own_wr_ne, mp_wr_ne, rd_wrm_ne, own_wrm_ne, mp_wrm_ne, rd_new_eq, own_new_eq, mp_newm_eq, Option.isSome_none, rd_of_own a1]
    have hb := own_lt a1
    have e0 : Ext (fun _ => False) H (H.new 3 [i64 x]) := (Ext.refl _ H).new 3 [i64 x]
    refine Sl.append (a2.ext e0 (fun _ _ h => h)) (Sl.lit_at (size := 1) (xs := [i64 x]) rfl rfl).rd rfl (allOne_ints [x]) (by omega) ?_
    intro v' H2 fp' hs hext hfp
    have b1 := hext.own (e0.own a1 (fun h => h)) (fun e => (s4 r e).2.1 rfl)
    have hs' := hs
    obtain ⟨f, rfl⟩ : ∃ f, fp' = some f := by
      cases fp' with
      | none => obtain ⟨_, e, _⟩ := hs; omega
      | some f => exact ⟨f, rfl⟩
    obtain ⟨_, l', c', rfl, g1, g2, g3, g4⟩ := hs'
    have hf : (fp = some f) ∨ H.size ≤ f := by
      rcases hfp with h | ⟨z, h, h5, h6⟩
      · exact .inl h.symm
      · injection h with h; subst h; rw [size_new] at h5; exact .inr (by omega)
    have hfr : f ≠ r ∧ f ≠ mb := by
      rcases hf with h | h
      · exact (s4 f h).2
      · have := a3.lt; omega
    have e2 : Ext (fun z => S z) H H2 := (e0.mono fun _ _ h => h.elim).trans' hext (fun z _ hz => (s4 z hz).1)
    have e3 : Ext (fun z => S z) H (H2.wr r [i64 d, .slice (some ⟨f, 0, none⟩) (l.length + 1) c', .map (some mb)]) := e2.wr (fun _ => s1) _
    have hr : RowAt (H2.wr r [i64 d, .slice (some ⟨f, 0, none⟩) (l.length + 1) c', .map (some mb)]) r (fun z => S z ∨ z = f) d (l ++ [x]) pl := by
      have ew : Ext (fun z => z = r) H2 (H2.wr r [i64 d, .slice (some ⟨f, 0, none⟩) (l.length + 1) c', .map (some mb)]) := (Ext.refl (fun z => z = r) _).wr (fun _ => rfl) _
      refine ⟨⟨.slice (some ⟨f, 0, none⟩) (l.length + 1) c', some f, mb, ?_, ?_, ((a3.ext e0 (fun h => h)).ext hext (fun e => (s4 mb e).2.2 rfl)).ext ew (Ne.symm s3), .inl s1, .inl s2, s3, fun b e => by cases e; exact ⟨.inr rfl, hfr⟩⟩, ?_⟩
      · exact own_wr_same b1
      · rw [List.length_append, List.map_append]; exact hs.ext ew (fun b e => by injection e with e; subst e; exact hfr.1)
      · rintro z (hz | rfl)
        · exact Nat.lt_of_lt_of_le (h2 z hz) e3.size
        · rw [size_wr]; exact own_lt g1
    have hd2 : ∀ z, (S z ∨ z = f) → ¬ T z := by
      rintro z (hz | rfl) ht
      · exact hd z hz ht
      · rcases hf with h | h
        · exact hd _ (s4 _ h).1 ht
        · have := ho.tlt H n hI _ ht; omega
    have hI2 := ho.keep _ _ _ _ hI e3 (fun z hz hs => hd z hs hz)
    simp (disch := (first | omega | (simp only [size_new, size_newm, size_wr, size_wrm] <;> omega) | fail)) only [go_sem, Nat.reduceBEq, Nat.reduceAdd, Nat.reduceMul, Nat.reduceLeDiff, ↓reduceIte, rd_new_lt, own_new_lt, mp_new_lt, rd_newm_lt, own_newm_lt, mp_newm_lt, rd_wr_ne, own_wr_ne, mp_wr_ne, rd_wrm_ne, own_wrm_ne, mp_wrm_ne, rd_new_eq, own_new_eq, mp_newm_eq, b1, rd_wr_same b1]
    rw [wrap64 (by omega) (by omega), show ((l.length + 1 : Nat) : Int) - 1 = (l.length : Int) by omega]
    refine (sift_up_spec ho hr hd2 hI2 l.length x ⟨by omega, by rw [List.length_append, List.length_singleton]; omega⟩ (by rw [List.length_append]; simp; omega) hDx (fun z hz => by rcases List.mem_append.1 hz with h | h; exact hD z h; rw [List.mem_singleton.1 h]; exact hDx)).mono ?_
    rintro _ H3 ⟨_, r1, r2, r3⟩
    simp (disch := (first | omega | (simp only [size_new, size_newm, size_wr, size_wrm] <;> omega) | fail)) only [go_sem, Nat.reduceBEq, Nat.reduceAdd, Nat.reduceMul, Nat.reduceLeDiff, ↓reduceIte, rd_new_lt, own_new_lt, mp_new_lt, rd_newm_lt, own_newm_lt, mp_newm_lt, rd_wr_ne, own_wr_ne, mp_wr_ne, rd_wrm_ne, own_wrm_ne, mp_wrm_ne, rd_new_eq, own_new_eq, mp_newm_eq]
    refine .inr ⟨rfl, rfl, _, r1, r2, ?_, ?_⟩
    · refine (e3.mono fun z _ hz => Or.inl hz).trans' r3 ?_
      rintro z hz ((h | rfl) | h)
      · exact .inl h
      · rcases hf with h | h
        · exact .inl (s4 _ h).1
        · omega
      · exact .inr h
    · rintro z (h | rfl)
      · exact .inl h
      · rcases hf with h | h
        · exact .inl (s4 _ h).1
        · exact .inr h

theorem sift_Raise_spec {ov : Value} {I : Hp → Nat → Prop} {T : Nat → Prop} {lt : Int → Int → Bool} {D : Int → Prop} (ho : OrdS ov I T lt D) {H : Hp} {r : Nat} {S : Nat → Prop} {d : Int} {l : List Int} {pl : Int → Option Int}
    (h : RowAt H r S d l pl) (hd : ∀ x, S x → ¬ T x) {n : Nat} (hI : I H n) (x : Int) (hl : l.length ≤ 1000000) (hp : ∀ i, pl x = some i → 0 ≤ i ∧ i < l.length) (hDx : D x := by trivial) (hD : ∀ z ∈ l, D z := by intros; trivial) :
    CallH Try.prog n_sift_Row_Raise [ptr r, ov, i64 x] H fun v H' => Post (
      (pl x = none ∧ v = .bool false ∧ H = H') ∨
      (∃ i, pl x = some i ∧ v = .bool true ∧ RowAt H' r S d (upM lt d x i.toNat l pl i).l (upM lt d x i.toNat l pl i).pl ∧ I H' (n + (upM lt d x i.toNat l pl i).asked) ∧ Ext (fun z => S z ∨ T z) H H')) := by
  obtain ⟨⟨sv, fp, mb, a1, a2, a3, s1, s2, s3, s4⟩, h2⟩ := id h
  have key : okTuple true (Value.int .i64 0) ((pl x).map i64) = .tuple [i64 ((pl x).getD 0), .bool (pl x).isSome].toArray := by cases pl x <;> rfl
  refine c_sift_Row_Raise ⟨rfl, ?_⟩
  simp (disch := (first | omega | (simp only [size_new, size_newm, size_wr, size_wrm] <;> omega) | fail)) only [go_sem, Nat.reduceBEq, Nat.reduceAdd, Nat.reduceMul, Nat.reduceLeDiff, ↓reduceIte, rd_new_lt, own_new_lt, mp_new_lt, rd_newm_lt, own_newm_lt, mp_newm_lt, rd_wr_ne, own_wr_ne, mp_wr_ne, rd_wrm_ne, own_wrm_ne, mp_wrm_ne, rd_new_eq, own_new_eq, mp_newm_eq, s_sift_Row_Raise, rd_of_own a1, a3.look, key]
  cases hx : pl x with
  | none =>
    simp (disch := (first | omega | (simp only [size_new, size_newm, size_wr, size_wrm] <;> omega) | fail)) only [go_sem, Nat.reduceBEq, Nat.reduceAdd, Nat.reduceMul, Nat.reduceLeDiff, ↓reduceIte, rd_new_lt, own_new_lt, mp_new_lt, rd_newm_lt, own_newm_lt, mp_newm_lt, rd_wr_ne, own_wr_ne, mp_wr_ne, rd_wrm_ne, own_wrm_ne, mp_wrm_ne, rd_new_eq, own_new_eq, mp_newm_eq, Option.isSome_none]
    exact .inl ⟨rfl, rfl, rfl⟩
  | some i =>
    simp (disch := (first | omega | (simp only [size_new, size_newm, size_wr, size_wrm] <;> omega) | fail)) only [go_sem, Nat.reduceBEq, Nat.reduceAdd, Nat.reduceMul, Nat.reduceLeDiff, ↓reduceIte, rd_new_lt, own_new_lt, mp_new_lt, rd_newm_lt, own_newm_lt, mp_newm_lt, rd_wr_ne, own_wr_ne, mp_wr_ne, rd_wrm_ne, own_wrm_ne, mp_wrm_ne, rd_new_eq, own_new_eq, mp_newm_eq, Option.isSome_some, Option.getD_some]
    refine (sift_up_spec ho h hd hI i x (hp i hx) hl hDx hD).mono ?_
    rintro _ H3 ⟨_, r1, r2, r3⟩
    simp (disch := (first | omega | (simp only [size_new, size_newm, size_wr, size_wrm] <;> omega) | fail)) only [go_sem, Nat.reduceBEq, Nat.reduceAdd, Nat.reduceMul, Nat.reduceLeDiff, ↓reduceIte, rd_new_lt, own_new_lt, mp_new_lt, rd_newm_lt, own_newm_lt, mp_newm_lt, rd_wr_ne, own_wr_ne, mp_wr_ne, rd_wrm_ne, own_wrm_ne, mp_wrm_ne, rd_new_eq, own_new_eq, mp_newm_eq]
    exact .inr ⟨i, rfl, rfl, r1, r2, r3⟩

end Go.Proofs.Yteicchpglnamcaa
