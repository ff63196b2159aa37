/-
  The package sift: one thing less.
-/
import Derived.Test.YteicchpglnamcaaHeap
set_option linter.unusedVariables false
set_option linter.unusedSimpArgs false
namespace Go.Proofs.Yteicchpglnamcaa
open Go Go.Vc

theorem sift_Remove_spec {ov : Value} {I : Hp → Nat → Prop} {T : Nat → Prop} {lt : Int → Int → Bool} {D : Int → Prop} (ho : OrdS ov I T lt D) {H : Hp} {r : Nat} {S : Nat → Prop} {d : Int} {l : List Int} {pl : Int → Option Int}
    (h : RowAt H r S d l pl) (hd : ∀ x, S x → ¬ T x) {n : Nat} (hI : I H n) (hf : FineD d) (x : Int) (hl : l.length ≤ 1000000) (hp : PlOk l pl) (hD : ∀ z ∈ l, D z := by intros; trivial) :
    CallH Try.prog n_sift_Row_Remove [ptr r, ov, i64 x] H fun v H' => Post (
      (pl x = none ∧ v = .bool false ∧ H = H') ∨
      (∃ i, pl x = some i ∧ v = .bool true ∧ RowAt H' r S d (removeM lt d x l pl i).1 (removeM lt d x l pl i).2.1 ∧ I H' (n + (removeM lt d x l pl i).2.2) ∧ Ext (fun z => S z ∨ T z) H H')) := by
  obtain ⟨⟨sv, fp, mb, a1, a2, a3, s1, s2, s3, s4⟩, h2⟩ := id h
  have key : okTuple true (Value.int .i64 0) ((pl x).map i64) = .tuple [i64 ((pl x).getD 0), .bool (pl x).isSome].toArray := by cases pl x <;> rfl
  refine c_sift_Row_Remove ⟨rfl, ?_⟩
  simp (disch := (first | omega | (simp only [size_new, size_newm, size_wr, size_wrm] <;> omega) | fail)) only [go_sem, Nat.reduceBEq, Nat.reduceAdd, Nat.reduceMul, Nat.reduceLeDiff, ↓reduceIte, rd_new_lt, own_new_lt, mp_new_lt, rd_newm_lt, own_newm_lt, mp_newm_lt, rd_wr_ne, own_wr_ne, mp_wr_ne, rd_wrm_ne, own_wrm_ne, mp_wrm_ne, rd_new_eq, own_new_eq, mp_newm_eq, s_sift_Row_Remove, rd_of_own a1, a3.look, key]
  cases hx : pl x with
  | none =>
    simp (disch := (first | omega | (simp only [size_new, size_newm, size_wr, size_wrm] <;> omega) | fail)) only [go_sem, Nat.reduceBEq, Nat.reduceAdd, Nat.reduceMul, Nat.reduceLeDiff, ↓reduceIte, rd_new_lt, own_new_lt, mp_new_lt, rd_newm_lt, own_newm_lt, mp_newm_lt, rd_wr_ne, own_wr_ne, mp_wr_ne, rd_wrm_ne, own_wrm_ne, mp_wrm_ne, rd_new_eq, own_new_eq, mp_newm_eq, Option.isSome_none]
    exact .inl ⟨rfl, rfl, rfl⟩
  | some i =>
    obtain ⟨i0, hxi⟩ := (hp x i).1 hx
    have hil : i.toNat < l.length := (List.getElem?_eq_some_iff.1 hxi).1
    obtain ⟨f, rfl⟩ : ∃ f, fp = some f := by
      cases fp with
      | none => obtain ⟨_, e, _⟩ := a2; omega
      | some f => exact ⟨f, rfl⟩
    have a2' := a2
    obtain ⟨_, l1, c, rfl, g2, a5, a6, a7⟩ := a2'
    have g3 : ∀ (i : Nat) (x : Int), l[i]? = some x → l1[i]? = some (i64 x) := fun i x h => by
      have hlt := (List.getElem?_eq_some_iff.1 h).1
      have h1 : (l.map i64)[i]? = some (i64 x) := by simp [h]
      rw [← a7, List.getElem?_take_of_lt (by omega)] at h1
      exact h1
    have hlast : l[l.length - 1]? = some (l.getD (l.length - 1) 0) := by
      rw [List.getD_eq_getElem?_getD, List.getElem?_eq_getElem (by omega)]; rfl
    have hlast' := g3 _ _ hlast
    have e1 : IntKind.i64.wrap ((l.length : Int) - 1) = ((l.length - 1 : Nat) : Int) := by rw [wrap64 (by omega) (by omega)]; omega
    simp (disch := (first | omega | (simp only [size_new, size_newm, size_wr, size_wrm] <;> omega) | fail)) only [go_sem, Nat.reduceBEq, Nat.reduceAdd, Nat.reduceMul, Nat.reduceLeDiff, ↓reduceIte, rd_new_lt, own_new_lt, mp_new_lt, rd_newm_lt, own_newm_lt, mp_newm_lt, rd_wr_ne, own_wr_ne, mp_wr_ne, rd_wrm_ne, own_wrm_ne, mp_wrm_ne, rd_new_eq, own_new_eq, mp_newm_eq, Option.isSome_some, Option.getD_some, rd_of_own a1, e1, Int.toNat_natCast]
    refine ⟨by omega, ?_⟩
    simp (disch := (first | omega | (simp only [size_new, size_newm, size_wr, size_wrm] <;> omega) | fail)) only [go_sem, Nat.reduceBEq, Nat.reduceAdd, Nat.reduceMul, Nat.reduceLeDiff, ↓reduceIte, rd_new_lt, own_new_lt, mp_new_lt, rd_newm_lt, own_newm_lt, mp_newm_lt, rd_wr_ne, own_wr_ne, mp_wr_ne, rd_wrm_ne, own_wrm_ne, mp_wrm_ne, rd_new_eq, own_new_eq, mp_newm_eq, rd_of_own g2, rd_of_own a1, Nat.mul_one, hlast', e1]
    refine ⟨by omega, ?_⟩
    obtain ⟨hb1, hb2, hb3⟩ := s4 f rfl
    have hsv : Value.slice (if (c : Int) = ((0 : Nat) : Int) then some (⟨f, 0, none⟩ : Addr) else Option.map (fun (x : Addr) => x.add (((0 : Nat) : Int).toNat * 1)) (some (⟨f, 0, none⟩ : Addr))) (((l.length - 1 : Nat) : Int).toNat - ((0 : Nat) : Int).toNat) ((c : Int).toNat - ((0 : Nat) : Int).toNat) = .slice (some ⟨f, 0, none⟩) (l.length - 1) c := by
      split <;> rfl
    simp (disch := (first | omega | (simp only [size_new, size_newm, size_wr, size_wrm] <;> omega) | fail)) only [go_sem, Nat.reduceBEq, Nat.reduceAdd, Nat.reduceMul, Nat.reduceLeDiff, ↓reduceIte, rd_new_lt, own_new_lt, mp_new_lt, rd_newm_lt, own_newm_lt, mp_newm_lt, rd_wr_ne, own_wr_ne, mp_wr_ne, rd_wrm_ne, own_wrm_ne, mp_wrm_ne, rd_new_eq, own_new_eq, mp_newm_eq, rd_of_own a1, a1]
    rw [hsv]
    have ew : Ext (fun z => z = r) H (H.wr r [i64 d, .slice (some ⟨f, 0, none⟩) (l.length - 1) c, .map (some mb)]) := (Ext.refl (fun z => z = r) _).wr (fun _ => rfl) _
    have b1 : (H.wr r [i64 d, .slice (some ⟨f, 0, none⟩) (l.length - 1) c, .map (some mb)]).own r = some [i64 d, .slice (some ⟨f, 0, none⟩) (l.length - 1) c, .map (some mb)] := own_wr_same a1
    have b3 := a3.ext ew (Ne.symm s3)
    simp (disch := (first | omega | (simp only [size_new, size_newm, size_wr, size_wrm] <;> omega) | fail)) only [go_sem, Nat.reduceBEq, Nat.reduceAdd, Nat.reduceMul, Nat.reduceLeDiff, ↓reduceIte, rd_new_lt, own_new_lt, mp_new_lt, rd_newm_lt, own_newm_lt, mp_newm_lt, rd_wr_ne, own_wr_ne, mp_wr_ne, rd_wrm_ne, own_wrm_ne, mp_wrm_ne, rd_new_eq, own_new_eq, mp_newm_eq, rd_of_own b1]
    refine b3.del fun H2 m2 e2 => ?_
    rw [delM_map] at m2
    have e02 : Ext S H H2 := (ew.mono fun z _ hz => hz ▸ s1).trans (e2.mono fun z _ hz => hz ▸ s2)
    have hr : RowAt H2 r S d l.dropLast (delM pl x) := by
      refine ⟨⟨.slice (some ⟨f, 0, none⟩) (l.length - 1) c, some f, mb, e2.own b1 s3, ⟨by simp, l1, c, by rw [List.length_dropLast], (e2.own ((ew.own g2 hb2)) hb3), by rw [List.length_dropLast]; omega, a6, ?_⟩, m2, s1, s2, s3, s4⟩,
        fun z hz => Nat.lt_of_lt_of_le (h2 z hz) e02.size⟩
      have hx7 : ((l.map i64).length) = l.length := by simp
      rw [List.length_dropLast, List.map_dropLast, List.dropLast_eq_take, hx7, ← a7, List.take_take]
      congr 1
      omega
    have hI2 := ho.keep _ _ _ _ hI e02 (fun z hz hs => hd z hs hz)
    simp (disch := (first | omega | (simp only [size_new, size_newm, size_wr, size_wrm] <;> omega) | fail)) only [go_sem, Nat.reduceBEq, Nat.reduceAdd, Nat.reduceMul, Nat.reduceLeDiff, ↓reduceIte, rd_new_lt, own_new_lt, mp_new_lt, rd_newm_lt, own_newm_lt, mp_newm_lt, rd_wr_ne, own_wr_ne, mp_wr_ne, rd_wrm_ne, own_wrm_ne, mp_wrm_ne, rd_new_eq, own_new_eq, mp_newm_eq]
    have hll : l.dropLast.length = l.length - 1 := List.length_dropLast
    refine Both.dec (fun he => ?_) (fun he => ?_) <;> simp (disch := (first | omega | (simp only [size_new, size_newm, size_wr, size_wrm] <;> omega) | fail)) only [go_sem, Nat.reduceBEq, Nat.reduceAdd, Nat.reduceMul, Nat.reduceLeDiff, ↓reduceIte, rd_new_lt, own_new_lt, mp_new_lt, rd_newm_lt, own_newm_lt, mp_newm_lt, rd_wr_ne, own_wr_ne, mp_wr_ne, rd_wrm_ne, own_wrm_ne, mp_wrm_ne, rd_new_eq, own_new_eq, mp_newm_eq]
    · refine .inr ⟨i, rfl, rfl, ?_, ?_, e02.mono fun z _ hz => .inl hz⟩
      · unfold removeM; rw [if_pos he]; exact hr
      · unfold removeM; rw [if_pos he]; exact hI2
    · have hlm : l.getD (l.length - 1) 0 ∈ l := List.mem_of_getElem? hlast
      have hi2 : i.toNat ≠ l.length - 1 := fun e => by rw [e, hlast] at hxi; injection hxi with hxi; exact he hxi
      refine (sift_up_spec ho hr hd hI2 i (l.getD (l.length - 1) 0) ⟨i0, by omega⟩ (by omega) (hD _ hlm) (fun z hz => hD z ((List.dropLast_sublist _).subset hz))).mono ?_
      rintro _ H3 ⟨rfl, r3, i3, e3⟩
      have e03 := (e02.mono fun z _ hz => Or.inl hz).trans e3
      simp (disch := (first | omega | (simp only [size_new, size_newm, size_wr, size_wrm] <;> omega) | fail)) only [go_sem, Nat.reduceBEq, Nat.reduceAdd, Nat.reduceMul, Nat.reduceLeDiff, ↓reduceIte, rd_new_lt, own_new_lt, mp_new_lt, rd_newm_lt, own_newm_lt, mp_newm_lt, rd_wr_ne, own_wr_ne, mp_wr_ne, rd_wrm_ne, own_wrm_ne, mp_wrm_ne, rd_new_eq, own_new_eq, mp_newm_eq]
      refine Both.dec (fun hst => ?_) (fun hst => ?_) <;> simp (disch := (first | omega | (simp only [size_new, size_newm, size_wr, size_wrm] <;> omega) | fail)) only [go_sem, Nat.reduceBEq, Nat.reduceAdd, Nat.reduceMul, Nat.reduceLeDiff, ↓reduceIte, rd_new_lt, own_new_lt, mp_new_lt, rd_newm_lt, own_newm_lt, mp_newm_lt, rd_wr_ne, own_wr_ne, mp_wr_ne, rd_wrm_ne, own_wrm_ne, mp_wrm_ne, rd_new_eq, own_new_eq, mp_newm_eq]
      · have hul := up_length lt d (l.getD (l.length - 1) 0) i.toNat l.dropLast (delM pl x) i
        refine (sift_down_spec ho r3 hd i3 hf i (l.getD (l.length - 1) 0) ⟨i0, by omega⟩ (by omega) (hD _ hlm) (fun z hz => by
          rcases upM_mem lt d _ _ _ _ _ i0 (by omega) z hz with h | h
          · rw [h]; exact hD _ hlm
          · exact hD z ((List.dropLast_sublist _).subset h))).mono ?_
        rintro _ H4 ⟨r4, i4, e4⟩
        simp (disch := (first | omega | (simp only [size_new, size_newm, size_wr, size_wrm] <;> omega) | fail)) only [go_sem, Nat.reduceBEq, Nat.reduceAdd, Nat.reduceMul, Nat.reduceLeDiff, ↓reduceIte, rd_new_lt, own_new_lt, mp_new_lt, rd_newm_lt, own_newm_lt, mp_newm_lt, rd_wr_ne, own_wr_ne, mp_wr_ne, rd_wrm_ne, own_wrm_ne, mp_wrm_ne, rd_new_eq, own_new_eq, mp_newm_eq]
        refine .inr ⟨i, rfl, rfl, ?_, ?_, e03.trans e4⟩
        · unfold removeM; rw [if_neg he]; simp only; rw [if_pos hst]; exact r4
        · unfold removeM; rw [if_neg he]; simp only; rw [if_pos hst, ← Nat.add_assoc]; exact i4
      · refine .inr ⟨i, rfl, rfl, ?_, ?_, e03⟩
        · unfold removeM; rw [if_neg he]; simp only; rw [if_neg hst]; exact r3
        · unfold removeM; rw [if_neg he]; simp only; rw [if_neg hst]; exact i3

end Go.Proofs.Yteicchpglnamcaa
