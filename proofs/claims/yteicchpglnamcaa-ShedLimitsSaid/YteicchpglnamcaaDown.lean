/-
  The package sift: a thing goes down.
-/
import Derived.Test.YteicchpglnamcaaFirst
set_option linter.unusedVariables false
set_option linter.unusedSimpArgs false
namespace Go.Proofs.Yteicchpglnamcaa
open Go Go.Vc

/-- A row's things, of each its place, how often it was asked. -/
def downM (lt : Int → Int → Bool) (d x : Int) : Nat → List Int → (Int → Option Int) → Int → List Int × (Int → Option Int) × Nat
  | 0, l, pl, i => (l.set i.toNat x, setM pl x i, 0)
  | m + 1, l, pl, i =>
    if (l.length : Int) ≤ d * i + 1 then (l.set i.toNat x, setM pl x i, 0)
    else
      let b := bestM lt l d i (d - 1).toNat (d * i + 1)
      let y := l.getD b.1.toNat 0
      if lt y x = true then
        let r := downM lt d x m (l.set i.toNat y) (setM pl y i) b.1
        (r.1, r.2.1, r.2.2 + b.2 + 1)
      else (l.set i.toNat x, setM pl x i, b.2 + 1)

theorem bestM_bound (lt : Int → Int → Bool) (l : List Int) (d i : Int) (h : 0 ≤ d * i) : ∀ (m : Nat) (best : Int), (m : Int) ≤ d - 1 → d * i + 1 ≤ best → best < l.length → d * i + 1 ≤ (bestM lt l d i m best).1 ∧ (bestM lt l d i m best).1 < l.length := by
  intro m
  induction m with
  | zero => intro best _ h1 h2; exact ⟨h1, h2⟩
  | succ m ih =>
    intro best hm h1 h2
    unfold bestM
    split
    · simp only
      split
      · exact ih _ (by omega) (by omega) (by omega)
      · exact ih _ (by omega) h1 h2
    · exact ih _ (by omega) h1 h2

theorem below_more {d i b : Int} (hf : FineD d) (hi : 0 ≤ i) (hb : d * i + 1 ≤ b) : i < b := by
  have h1 := hf.1
  have : 1 * i ≤ d * i := Int.mul_le_mul_of_nonneg_right (by omega) hi
  omega

theorem downM_more (lt : Int → Int → Bool) (d x : Int) (hf : FineD d) : ∀ (m m' : Nat) (l : List Int) (pl : Int → Option Int) (i : Int), 0 ≤ i → l.length ≤ i.toNat + m → l.length ≤ i.toNat + m' →
    downM lt d x m l pl i = downM lt d x m' l pl i := by
  have hz : ∀ (m : Nat) (l : List Int) (pl : Int → Option Int) (i : Int), 0 ≤ i → l.length ≤ i.toNat → downM lt d x m l pl i = (l.set i.toNat x, setM pl x i, 0) := by
    intro m l pl i hi hl
    cases m with
    | zero => rfl
    | succ m =>
      have h1 := hf.1
      have : 1 * i ≤ d * i := Int.mul_le_mul_of_nonneg_right (by omega) hi
      rw [downM, if_pos (by omega)]
  intro m
  induction m with
  | zero => intro m' l pl i hi h h'; rw [hz 0 l pl i hi (by omega), hz m' l pl i hi (by omega)]
  | succ m ih =>
    intro m' l pl i hi h h'
    cases m' with
    | zero => rw [hz 0 l pl i hi (by omega), hz (m + 1) l pl i hi (by omega)]
    | succ m' =>
      rw [downM, downM]
      split
      · rfl
      · rename_i hc
        have h1 := hf.1
        have hdi : 0 ≤ d * i := Int.mul_nonneg (by omega) hi
        have hb := bestM_bound lt l d i hdi (d - 1).toNat (d * i + 1) (by omega) (by omega) (by omega)
        have hlt := below_more hf hi hb.1
        simp only
        split
        · rw [ih m' _ _ _ (by omega) (by rw [List.length_set]; omega) (by rw [List.length_set]; omega)]
        · rfl

theorem sift_down_spec {ov : Value} {I : Hp → Nat → Prop} {T : Nat → Prop} {lt : Int → Int → Bool} {D : Int → Prop} (ho : OrdS ov I T lt D) {H : Hp} {r : Nat} {S : Nat → Prop} {d : Int} {l : List Int} {pl : Int → Option Int}
    (h : RowAt H r S d l pl) (hd : ∀ x, S x → ¬ T x) {n : Nat} (hI : I H n) (hf : FineD d) (i x : Int) (hi : 0 ≤ i ∧ i < l.length) (hl : l.length ≤ 1000000) (hx : D x := by trivial) (hD : ∀ z ∈ l, D z := by intros; trivial) :
    CallH Try.prog n_sift_Row_down [ptr r, ov, i64 i, i64 x] H fun v H' => Post (
      let R := downM lt d x l.length l pl i
      RowAt H' r S d R.1 R.2.1 ∧ I H' (n + R.2.2) ∧ Ext (fun z => S z ∨ T z) H H') := by
  refine c_sift_Row_down ⟨rfl, ?_⟩
  simp (disch := (first | omega | (simp only [size_new, size_newm, size_wr, size_wrm] <;> omega) | fail)) only [go_sem, Nat.reduceBEq, Nat.reduceAdd, Nat.reduceMul, Nat.reduceLeDiff, ↓reduceIte, rd_new_lt, own_new_lt, mp_new_lt, rd_newm_lt, own_newm_lt, mp_newm_lt, rd_wr_ne, own_wr_ne, mp_wr_ne, rd_wrm_ne, own_wrm_ne, mp_wrm_ne, rd_new_eq, own_new_eq, mp_newm_eq, s_sift_Row_down]
  refine LoopV.intro (fun m env H1 => ∃ (l1 : List Int) (pl1 : Int → Option Int) (i1 : Int) (k : Nat), env = [(0, ptr r), (1, ov), (2, i64 i1), (3, i64 x)] ∧ (∀ z ∈ l1, D z) ∧ m = l1.length - i1.toNat ∧ 0 ≤ i1 ∧ i1 < l1.length ∧ l1.length = l.length ∧
      RowAt H1 r S d l1 pl1 ∧ I H1 (n + k) ∧ Ext (fun z => S z ∨ T z) H H1 ∧
      (downM lt d x l.length l pl i).1 = (downM lt d x l1.length l1 pl1 i1).1 ∧ (downM lt d x l.length l pl i).2.1 = (downM lt d x l1.length l1 pl1 i1).2.1 ∧
      (downM lt d x l.length l pl i).2.2 = k + (downM lt d x l1.length l1 pl1 i1).2.2) (l.length - i.toNat) ⟨l, pl, i, 0, rfl, hD, rfl, hi.1, hi.2, rfl, h, hI, Ext.refl _ _, rfl, rfl, by omega⟩ ?_
  rintro m env H1 ⟨l1, pl1, i1, k, rfl, hD1, rfl, i0, il, ll, h1, hI1, e1, u1, u2, u3⟩
  have hd1 := hf.1
  have hdi : 0 ≤ d * i1 := Int.mul_nonneg (by omega) i0
  have stop : ∀ (H2 : Hp) (k2 : Nat), RowAt H2 r S d l1 pl1 → I H2 (n + k + k2) → Ext (fun z => S z ∨ T z) H H2 → downM lt d x l1.length l1 pl1 i1 = (l1.set i1.toNat x, setM pl1 x i1, k2) →
      CallH Try.prog n_sift_Row_set [ptr r, i64 i1, i64 x] H2 fun _ H' => (RowAt H' r S d (downM lt d x l.length l pl i).1 (downM lt d x l.length l pl i).2.1 ∧
        I H' (n + (downM lt d x l.length l pl i).2.2) ∧ Ext (fun z => S z ∨ T z) H H') := by
    intro H2 k2 g1 g2 g3 g4
    refine (sift_set_spec g1 i1 x ⟨i0, il⟩).mono ?_
    rintro _ H3 ⟨_, g5, g6⟩
    rw [u1, u2, u3, g4]
    exact ⟨g5, by rw [← Nat.add_assoc]; exact ho.keep _ _ _ _ g2 g6 (fun z hz hs => hd z hs hz), g3.trans (g6.mono fun z _ hz => .inl hz)⟩
  obtain ⟨q, hq⟩ : ∃ q, l1.length = q + 1 := ⟨l1.length - 1, by omega⟩
  simp (disch := (first | omega | (simp only [size_new, size_newm, size_wr, size_wrm] <;> omega) | fail)) only [go_sem, Nat.reduceBEq, Nat.reduceAdd, Nat.reduceMul, Nat.reduceLeDiff, ↓reduceIte, rd_new_lt, own_new_lt, mp_new_lt, rd_newm_lt, own_newm_lt, mp_newm_lt, rd_wr_ne, own_wr_ne, mp_wr_ne, rd_wrm_ne, own_wrm_ne, mp_wrm_ne, rd_new_eq, own_new_eq, mp_newm_eq]
  refine (sift_first_spec ho h1 hd hI1 hf i1 ⟨i0, il⟩ (by omega) hD1).mono ?_
  rintro _ H2 (⟨hc, rfl, rfl⟩ | ⟨hc, rfl, h2, hI2, e2⟩)
  · simp (disch := (first | omega | (simp only [size_new, size_newm, size_wr, size_wrm] <;> omega) | fail)) only [go_sem, Nat.reduceBEq, Nat.reduceAdd, Nat.reduceMul, Nat.reduceLeDiff, ↓reduceIte, rd_new_lt, own_new_lt, mp_new_lt, rd_newm_lt, own_newm_lt, mp_newm_lt, rd_wr_ne, own_wr_ne, mp_wr_ne, rd_wrm_ne, own_wrm_ne, mp_wrm_ne, rd_new_eq, own_new_eq, mp_newm_eq]
    refine (stop H1 0 h1 hI1 e1 ?_).mono ?_
    · rw [hq, downM, if_pos hc]
    · rintro _ H3 ⟨g1, g2, g3⟩
      simp (disch := (first | omega | (simp only [size_new, size_newm, size_wr, size_wrm] <;> omega) | fail)) only [go_sem, Nat.reduceBEq, Nat.reduceAdd, Nat.reduceMul, Nat.reduceLeDiff, ↓reduceIte, rd_new_lt, own_new_lt, mp_new_lt, rd_newm_lt, own_newm_lt, mp_newm_lt, rd_wr_ne, own_wr_ne, mp_wr_ne, rd_wrm_ne, own_wrm_ne, mp_wrm_ne, rd_new_eq, own_new_eq, mp_newm_eq]
      exact ⟨g1, g2, g3⟩
  · have hb := bestM_bound lt l1 d i1 hdi (d - 1).toNat (d * i1 + 1) (by omega) (by omega) hc
    have hlt := below_more hf i0 hb.1
    obtain ⟨f1, l', c1, mb1, g1, g2, g3⟩ := h2.read (by omega)
    obtain ⟨y, hy⟩ : ∃ y, l1[(bestM lt l1 d i1 (d - 1).toNat (d * i1 + 1)).1.toNat]? = some y := ⟨_, List.getElem?_eq_getElem (by omega)⟩
    have hy' := g3 _ _ hy
    have hy3 : l1.getD (bestM lt l1 d i1 (d - 1).toNat (d * i1 + 1)).1.toNat 0 = y := by rw [List.getD_eq_getElem?_getD, hy]; rfl
    have e12 := e1.trans (e2.mono fun z _ hz => .inr hz)
    simp (disch := (first | omega | (simp only [size_new, size_newm, size_wr, size_wrm] <;> omega) | fail)) only [go_sem, Nat.reduceBEq, Nat.reduceAdd, Nat.reduceMul, Nat.reduceLeDiff, ↓reduceIte, rd_new_lt, own_new_lt, mp_new_lt, rd_newm_lt, own_newm_lt, mp_newm_lt, rd_wr_ne, own_wr_ne, mp_wr_ne, rd_wrm_ne, own_wrm_ne, mp_wrm_ne, rd_new_eq, own_new_eq, mp_newm_eq, rd_of_own g1]
    refine ⟨by omega, ?_⟩
    simp (disch := (first | omega | (simp only [size_new, size_newm, size_wr, size_wrm] <;> omega) | fail)) only [go_sem, Nat.reduceBEq, Nat.reduceAdd, Nat.reduceMul, Nat.reduceLeDiff, ↓reduceIte, rd_new_lt, own_new_lt, mp_new_lt, rd_newm_lt, own_newm_lt, mp_newm_lt, rd_wr_ne, own_wr_ne, mp_wr_ne, rd_wrm_ne, own_wrm_ne, mp_wrm_ne, rd_new_eq, own_new_eq, mp_newm_eq, rd_of_own g2, Nat.mul_one, hy']
    refine ⟨ho.nil, ?_⟩
    simp (disch := (first | omega | (simp only [size_new, size_newm, size_wr, size_wrm] <;> omega) | fail)) only [go_sem, Nat.reduceBEq, Nat.reduceAdd, Nat.reduceMul, Nat.reduceLeDiff, ↓reduceIte, rd_new_lt, own_new_lt, mp_new_lt, rd_newm_lt, own_newm_lt, mp_newm_lt, rd_wr_ne, own_wr_ne, mp_wr_ne, rd_wrm_ne, own_wrm_ne, mp_wrm_ne, rd_new_eq, own_new_eq, mp_newm_eq]
    refine InvH.mono (ho.call H2 _ y x (hD1 y (List.mem_of_getElem? hy)) hx hI2) ?_
    rintro _ H3 ⟨rfl, hI3, e3⟩
    have h3 := h2.ext e3 hd
    have e13 := e12.trans (e3.mono fun z _ hz => .inr hz)
    obtain ⟨f4, l4, c4, mb4, k1, k2, k3⟩ := h3.read (by omega)
    have hy4 := k3 _ _ hy
    simp (disch := (first | omega | (simp only [size_new, size_newm, size_wr, size_wrm] <;> omega) | fail)) only [go_sem, Nat.reduceBEq, Nat.reduceAdd, Nat.reduceMul, Nat.reduceLeDiff, ↓reduceIte, rd_new_lt, own_new_lt, mp_new_lt, rd_newm_lt, own_newm_lt, mp_newm_lt, rd_wr_ne, own_wr_ne, mp_wr_ne, rd_wrm_ne, own_wrm_ne, mp_wrm_ne, rd_new_eq, own_new_eq, mp_newm_eq]
    cases hyx : lt y x with
    | false =>
      simp (disch := (first | omega | (simp only [size_new, size_newm, size_wr, size_wrm] <;> omega) | fail)) only [go_sem, Nat.reduceBEq, Nat.reduceAdd, Nat.reduceMul, Nat.reduceLeDiff, ↓reduceIte, rd_new_lt, own_new_lt, mp_new_lt, rd_newm_lt, own_newm_lt, mp_newm_lt, rd_wr_ne, own_wr_ne, mp_wr_ne, rd_wrm_ne, own_wrm_ne, mp_wrm_ne, rd_new_eq, own_new_eq, mp_newm_eq]
      refine (stop H3 ((bestM lt l1 d i1 (d - 1).toNat (d * i1 + 1)).2 + 1) h3 (by rw [← Nat.add_assoc]; exact hI3) e13 ?_).mono ?_
      · rw [hq, downM, if_neg (by omega)]
        simp only [hy3, hyx]
        rfl
      · rintro _ H4 ⟨g1, g2, g3⟩
        simp (disch := (first | omega | (simp only [size_new, size_newm, size_wr, size_wrm] <;> omega) | fail)) only [go_sem, Nat.reduceBEq, Nat.reduceAdd, Nat.reduceMul, Nat.reduceLeDiff, ↓reduceIte, rd_new_lt, own_new_lt, mp_new_lt, rd_newm_lt, own_newm_lt, mp_newm_lt, rd_wr_ne, own_wr_ne, mp_wr_ne, rd_wrm_ne, own_wrm_ne, mp_wrm_ne, rd_new_eq, own_new_eq, mp_newm_eq]
        exact ⟨g1, g2, g3⟩
    | true =>
      simp (disch := (first | omega | (simp only [size_new, size_newm, size_wr, size_wrm] <;> omega) | fail)) only [go_sem, Nat.reduceBEq, Nat.reduceAdd, Nat.reduceMul, Nat.reduceLeDiff, ↓reduceIte, rd_new_lt, own_new_lt, mp_new_lt, rd_newm_lt, own_newm_lt, mp_newm_lt, rd_wr_ne, own_wr_ne, mp_wr_ne, rd_wrm_ne, own_wrm_ne, mp_wrm_ne, rd_new_eq, own_new_eq, mp_newm_eq, rd_of_own k1]
      refine ⟨by omega, ?_⟩
      simp (disch := (first | omega | (simp only [size_new, size_newm, size_wr, size_wrm] <;> omega) | fail)) only [go_sem, Nat.reduceBEq, Nat.reduceAdd, Nat.reduceMul, Nat.reduceLeDiff, ↓reduceIte, rd_new_lt, own_new_lt, mp_new_lt, rd_newm_lt, own_newm_lt, mp_newm_lt, rd_wr_ne, own_wr_ne, mp_wr_ne, rd_wrm_ne, own_wrm_ne, mp_wrm_ne, rd_new_eq, own_new_eq, mp_newm_eq, rd_of_own k2, Nat.mul_one, hy4]
      refine (sift_set_spec h3 i1 y ⟨i0, il⟩).mono ?_
      rintro _ H4 ⟨_, g5, g6⟩
      simp (disch := (first | omega | (simp only [size_new, size_newm, size_wr, size_wrm] <;> omega) | fail)) only [go_sem, Nat.reduceBEq, Nat.reduceAdd, Nat.reduceMul, Nat.reduceLeDiff, ↓reduceIte, rd_new_lt, own_new_lt, mp_new_lt, rd_newm_lt, own_newm_lt, mp_newm_lt, rd_wr_ne, own_wr_ne, mp_wr_ne, rd_wrm_ne, own_wrm_ne, mp_wrm_ne, rd_new_eq, own_new_eq, mp_newm_eq]
      have hdn : downM lt d x l1.length l1 pl1 i1 = ((downM lt d x (l1.set i1.toNat y).length (l1.set i1.toNat y) (setM pl1 y i1) (bestM lt l1 d i1 (d - 1).toNat (d * i1 + 1)).1).1,
          (downM lt d x (l1.set i1.toNat y).length (l1.set i1.toNat y) (setM pl1 y i1) (bestM lt l1 d i1 (d - 1).toNat (d * i1 + 1)).1).2.1,
          (downM lt d x (l1.set i1.toNat y).length (l1.set i1.toNat y) (setM pl1 y i1) (bestM lt l1 d i1 (d - 1).toNat (d * i1 + 1)).1).2.2 + (bestM lt l1 d i1 (d - 1).toNat (d * i1 + 1)).2 + 1) := by
        rw [downM_more lt d x hf (l1.set i1.toNat y).length q _ _ _ (by omega) (by omega) (by rw [List.length_set]; omega), hq, downM, if_neg (by omega)]
        simp only [hy3, hyx, if_true]
      refine ⟨l1.length - (bestM lt l1 d i1 (d - 1).toNat (d * i1 + 1)).1.toNat, by omega, l1.set i1.toNat y, setM pl1 y i1, (bestM lt l1 d i1 (d - 1).toNat (d * i1 + 1)).1, k + (bestM lt l1 d i1 (d - 1).toNat (d * i1 + 1)).2 + 1, rfl, fun z hz => (mem_setL hz).elim (fun e => e ▸ hD1 y (List.mem_of_getElem? hy)) (hD1 z), by rw [List.length_set], by omega, by rw [List.length_set]; omega, by rw [List.length_set]; exact ll, g5, ?_,
        e13.trans (g6.mono fun z _ hz => .inl hz), by rw [u1, hdn], by rw [u2, hdn], by rw [u3, hdn]; simp only; omega⟩
      have := ho.keep _ _ _ _ hI3 g6 (fun z hz hs => hd z hs hz)
      rw [show n + (k + (bestM lt l1 d i1 (d - 1).toNat (d * i1 + 1)).2 + 1) = n + k + (bestM lt l1 d i1 (d - 1).toNat (d * i1 + 1)).2 + 1 by omega]
      exact this

end Go.Proofs.Yteicchpglnamcaa
