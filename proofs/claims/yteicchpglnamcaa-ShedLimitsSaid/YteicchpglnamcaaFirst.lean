/-
  The package sift: the child of a place that is ahead of its others.
-/
import Derived.Test.YteicchpglnamcaaClone
set_option linter.unusedVariables false
set_option linter.unusedSimpArgs false
namespace Go.Proofs.Yteicchpglnamcaa
open Go Go.Vc

/-- Of the last m children of a place, and one place more: which is ahead, and how often it was asked. -/
def bestM (lt : Int → Int → Bool) (l : List Int) (d i : Int) : Nat → Int → Int × Nat
  | 0, best => (best, 0)
  | m + 1, best =>
    if d * i + (d - m) < l.length then
      let r := bestM lt l d i m (if lt (l.getD (d * i + (d - m)).toNat 0) (l.getD best.toNat 0) = true then d * i + (d - m) else best)
      (r.1, r.2 + 1)
    else bestM lt l d i m best

theorem RowAt.read {H : Hp} {r : Nat} {S : Nat → Prop} {d : Int} {l : List Int} {pl : Int → Option Int} (h : RowAt H r S d l pl) (hl : 0 < l.length) :
    ∃ f l' c mb, H.own r = some [i64 d, .slice (some ⟨f, 0, none⟩) l.length c, .map (some mb)] ∧ H.own f = some l' ∧ ∀ (i : Nat) (x : Int), l[i]? = some x → l'[i]? = some (i64 x) := by
  obtain ⟨⟨sv, fp, mb, a1, a2, a3, s1, s2, s3, s4⟩, h2⟩ := h
  cases fp with
  | none => obtain ⟨_, e, _⟩ := a2; omega
  | some f =>
    obtain ⟨_, l', c, rfl, a4, a5, a6, a7⟩ := a2
    refine ⟨f, l', c, mb, a1, a4, ?_⟩
    intro i x hx
    have hi := (List.getElem?_eq_some_iff.1 hx).1
    have h1 : (l.map i64)[i]? = some (i64 x) := by simp [hx]
    rw [← a7, List.getElem?_take_of_lt (by omega)] at h1
    exact h1

theorem sift_first_spec {ov : Value} {I : Hp → Nat → Prop} {T : Nat → Prop} {lt : Int → Int → Bool} {D : Int → Prop} (ho : OrdS ov I T lt D) {H : Hp} {r : Nat} {S : Nat → Prop} {d : Int} {l : List Int} {pl : Int → Option Int}
    (h : RowAt H r S d l pl) (hd : ∀ x, S x → ¬ T x) {n : Nat} (hI : I H n) (hf : FineD d) (i : Int) (hi : 0 ≤ i ∧ i < l.length) (hl : l.length ≤ 1000000) (hD : ∀ z ∈ l, D z := by intros; trivial) :
    CallH Try.prog n_sift_Row_first [ptr r, ov, i64 i] H fun v H' => Post (
      ((l.length : Int) ≤ d * i + 1 ∧ v = .tuple [i64 0, .bool false].toArray ∧ H = H') ∨
      (d * i + 1 < l.length ∧ v = .tuple [i64 (bestM lt l d i (d - 1).toNat (d * i + 1)).1, .bool true].toArray ∧ RowAt H' r S d l pl ∧ I H' (n + (bestM lt l d i (d - 1).toNat (d * i + 1)).2) ∧ Ext T H H')) := by
  obtain ⟨f, l', c, mb, a1, a2, a3⟩ := h.read (by omega)
  have hf1 := hf.1
  have hf2 := hf.2
  have hc : ∀ k, 1 ≤ k → k ≤ d → childF d i k = some (d * i + k) := fun k h1 h2 => by unfold childF; rw [if_pos ⟨hf, by omega, by omega, h1, h2⟩]
  have hb := childF_bound (i := i) hf (by omega) (by omega) (by omega : (1 : Int) ≤ 1) (by omega)
  refine c_sift_Row_first ⟨rfl, ?_⟩
  simp (disch := (first | omega | (simp only [size_new, size_newm, size_wr, size_wrm] <;> omega) | fail)) only [go_sem, Nat.reduceBEq, Nat.reduceAdd, Nat.reduceMul, Nat.reduceLeDiff, ↓reduceIte, rd_new_lt, own_new_lt, mp_new_lt, rd_newm_lt, own_newm_lt, mp_newm_lt, rd_wr_ne, own_wr_ne, mp_wr_ne, rd_wrm_ne, own_wrm_ne, mp_wrm_ne, rd_new_eq, own_new_eq, mp_newm_eq, s_sift_Row_first, rd_of_own a1]
  refine (sift_Child_spec d i 1 H).mono ?_
  rintro _ _ ⟨rfl, rfl⟩
  rw [hc 1 (by omega) (by omega)]
  simp (disch := (first | omega | (simp only [size_new, size_newm, size_wr, size_wrm] <;> omega) | fail)) only [go_sem, Nat.reduceBEq, Nat.reduceAdd, Nat.reduceMul, Nat.reduceLeDiff, ↓reduceIte, rd_new_lt, own_new_lt, mp_new_lt, rd_newm_lt, own_newm_lt, mp_newm_lt, rd_wr_ne, own_wr_ne, mp_wr_ne, rd_wrm_ne, own_wrm_ne, mp_wrm_ne, rd_new_eq, own_new_eq, mp_newm_eq, twoF, rd_of_own a1]
  refine Both.dec (fun h1 => ?_) (fun h1 => ?_) <;> simp (disch := (first | omega | (simp only [size_new, size_newm, size_wr, size_wrm] <;> omega) | fail)) only [go_sem, Nat.reduceBEq, Nat.reduceAdd, Nat.reduceMul, Nat.reduceLeDiff, ↓reduceIte, rd_new_lt, own_new_lt, mp_new_lt, rd_newm_lt, own_newm_lt, mp_newm_lt, rd_wr_ne, own_wr_ne, mp_wr_ne, rd_wrm_ne, own_wrm_ne, mp_wrm_ne, rd_new_eq, own_new_eq, mp_newm_eq]
  · exact .inl ⟨by omega, rfl, rfl⟩
  · refine LoopV.intro (fun m env H1 => ∃ (best : Int) (k : Nat), env = [(0, ptr r), (1, ov), (2, i64 i), (8, i64 best), (10, i64 (d + 1 - m))] ∧ (m : Int) ≤ d - 1 ∧ 0 ≤ best ∧ best < l.length ∧
      RowAt H1 r S d l pl ∧ I H1 (n + k) ∧ Ext T H H1 ∧
      (bestM lt l d i (d - 1).toNat (d * i + 1)).1 = (bestM lt l d i m best).1 ∧ (bestM lt l d i (d - 1).toNat (d * i + 1)).2 = k + (bestM lt l d i m best).2) (d - 1).toNat
      ⟨d * i + 1, 0, by rw [show d + 1 - ((d - 1).toNat : Int) = 2 by omega], by omega, by omega, by omega, h, hI, Ext.refl _ _, rfl, by omega⟩ ?_
    rintro m env H1 ⟨best, k, rfl, hm, b0, b1, r1, i1, e1, u1, u2⟩
    obtain ⟨f1, l1, c1, mb1, g1, g2, g3⟩ := r1.read (by omega)
    simp (disch := (first | omega | (simp only [size_new, size_newm, size_wr, size_wrm] <;> omega) | fail)) only [go_sem, Nat.reduceBEq, Nat.reduceAdd, Nat.reduceMul, Nat.reduceLeDiff, ↓reduceIte, rd_new_lt, own_new_lt, mp_new_lt, rd_newm_lt, own_newm_lt, mp_newm_lt, rd_wr_ne, own_wr_ne, mp_wr_ne, rd_wrm_ne, own_wrm_ne, mp_wrm_ne, rd_new_eq, own_new_eq, mp_newm_eq, rd_of_own g1]
    refine Both.dec (fun hk => ?_) (fun hk => ?_) <;> simp (disch := (first | omega | (simp only [size_new, size_newm, size_wr, size_wrm] <;> omega) | fail)) only [go_sem, Nat.reduceBEq, Nat.reduceAdd, Nat.reduceMul, Nat.reduceLeDiff, ↓reduceIte, rd_new_lt, own_new_lt, mp_new_lt, rd_newm_lt, own_newm_lt, mp_newm_lt, rd_wr_ne, own_wr_ne, mp_wr_ne, rd_wrm_ne, own_wrm_ne, mp_wrm_ne, rd_new_eq, own_new_eq, mp_newm_eq]
    · obtain ⟨q, rfl⟩ : ∃ q, m = q + 1 := ⟨m - 1, by omega⟩
      rw [show d + 1 - ((q + 1 : Nat) : Int) = d - q by omega] at *
      simp (disch := (first | omega | (simp only [size_new, size_newm, size_wr, size_wrm] <;> omega) | fail)) only [go_sem, Nat.reduceBEq, Nat.reduceAdd, Nat.reduceMul, Nat.reduceLeDiff, ↓reduceIte, rd_new_lt, own_new_lt, mp_new_lt, rd_newm_lt, own_newm_lt, mp_newm_lt, rd_wr_ne, own_wr_ne, mp_wr_ne, rd_wrm_ne, own_wrm_ne, mp_wrm_ne, rd_new_eq, own_new_eq, mp_newm_eq, rd_of_own g1]
      refine (sift_Child_spec d i (d - q) H1).mono ?_
      rintro _ _ ⟨rfl, rfl⟩
      have hcb := childF_bound (i := i) hf (by omega) (by omega) (by omega : (1 : Int) ≤ d - q) (by omega)
      rw [hc (d - q) (by omega) (by omega)]
      simp (disch := (first | omega | (simp only [size_new, size_newm, size_wr, size_wrm] <;> omega) | fail)) only [go_sem, Nat.reduceBEq, Nat.reduceAdd, Nat.reduceMul, Nat.reduceLeDiff, ↓reduceIte, rd_new_lt, own_new_lt, mp_new_lt, rd_newm_lt, own_newm_lt, mp_newm_lt, rd_wr_ne, own_wr_ne, mp_wr_ne, rd_wrm_ne, own_wrm_ne, mp_wrm_ne, rd_new_eq, own_new_eq, mp_newm_eq, twoF, rd_of_own g1]
      refine Both.dec (fun hcl => ?_) (fun hcl => ?_) <;> simp (disch := (first | omega | (simp only [size_new, size_newm, size_wr, size_wrm] <;> omega) | fail)) only [go_sem, Nat.reduceBEq, Nat.reduceAdd, Nat.reduceMul, Nat.reduceLeDiff, ↓reduceIte, rd_new_lt, own_new_lt, mp_new_lt, rd_newm_lt, own_newm_lt, mp_newm_lt, rd_wr_ne, own_wr_ne, mp_wr_ne, rd_wrm_ne, own_wrm_ne, mp_wrm_ne, rd_new_eq, own_new_eq, mp_newm_eq]
      · obtain ⟨x, hx⟩ : ∃ x, l[(d * i + (d - q)).toNat]? = some x := ⟨_, List.getElem?_eq_getElem (by omega)⟩
        obtain ⟨y, hy⟩ : ∃ y, l[best.toNat]? = some y := ⟨_, List.getElem?_eq_getElem (by omega)⟩
        have hx' := g3 _ _ hx
        have hy' := g3 _ _ hy
        simp (disch := (first | omega | (simp only [size_new, size_newm, size_wr, size_wrm] <;> omega) | fail)) only [go_sem, Nat.reduceBEq, Nat.reduceAdd, Nat.reduceMul, Nat.reduceLeDiff, ↓reduceIte, rd_new_lt, own_new_lt, mp_new_lt, rd_newm_lt, own_newm_lt, mp_newm_lt, rd_wr_ne, own_wr_ne, mp_wr_ne, rd_wrm_ne, own_wrm_ne, mp_wrm_ne, rd_new_eq, own_new_eq, mp_newm_eq, rd_of_own g1]
        refine ⟨by omega, ?_⟩
        simp (disch := (first | omega | (simp only [size_new, size_newm, size_wr, size_wrm] <;> omega) | fail)) only [go_sem, Nat.reduceBEq, Nat.reduceAdd, Nat.reduceMul, Nat.reduceLeDiff, ↓reduceIte, rd_new_lt, own_new_lt, mp_new_lt, rd_newm_lt, own_newm_lt, mp_newm_lt, rd_wr_ne, own_wr_ne, mp_wr_ne, rd_wrm_ne, own_wrm_ne, mp_wrm_ne, rd_new_eq, own_new_eq, mp_newm_eq, rd_of_own g1, rd_of_own g2, Nat.mul_one, hx']
        refine ⟨by omega, ?_⟩
        simp (disch := (first | omega | (simp only [size_new, size_newm, size_wr, size_wrm] <;> omega) | fail)) only [go_sem, Nat.reduceBEq, Nat.reduceAdd, Nat.reduceMul, Nat.reduceLeDiff, ↓reduceIte, rd_new_lt, own_new_lt, mp_new_lt, rd_newm_lt, own_newm_lt, mp_newm_lt, rd_wr_ne, own_wr_ne, mp_wr_ne, rd_wrm_ne, own_wrm_ne, mp_wrm_ne, rd_new_eq, own_new_eq, mp_newm_eq, rd_of_own g2, Nat.mul_one, hy']
        refine ⟨ho.nil, ?_⟩
        simp (disch := (first | omega | (simp only [size_new, size_newm, size_wr, size_wrm] <;> omega) | fail)) only [go_sem, Nat.reduceBEq, Nat.reduceAdd, Nat.reduceMul, Nat.reduceLeDiff, ↓reduceIte, rd_new_lt, own_new_lt, mp_new_lt, rd_newm_lt, own_newm_lt, mp_newm_lt, rd_wr_ne, own_wr_ne, mp_wr_ne, rd_wrm_ne, own_wrm_ne, mp_wrm_ne, rd_new_eq, own_new_eq, mp_newm_eq]
        refine InvH.mono (ho.call H1 (n + k) x y (hD x (List.mem_of_getElem? hx)) (hD y (List.mem_of_getElem? hy)) i1) ?_
        rintro _ H2 ⟨rfl, hI2, e2⟩
        have hbm : ∀ z, z = (if lt x y = true then d * i + (d - q) else best) → bestM lt l d i (q + 1) best = ((bestM lt l d i q z).1, (bestM lt l d i q z).2 + 1) := by
          intro z hz
          rw [bestM, if_pos hcl]
          simp only [List.getD, hx, hy, Option.getD_some, hz]
        simp (disch := (first | omega | (simp only [size_new, size_newm, size_wr, size_wrm] <;> omega) | fail)) only [go_sem, Nat.reduceBEq, Nat.reduceAdd, Nat.reduceMul, Nat.reduceLeDiff, ↓reduceIte, rd_new_lt, own_new_lt, mp_new_lt, rd_newm_lt, own_newm_lt, mp_newm_lt, rd_wr_ne, own_wr_ne, mp_wr_ne, rd_wrm_ne, own_wrm_ne, mp_wrm_ne, rd_new_eq, own_new_eq, mp_newm_eq]
        refine Both.intro (fun hlt => ?_) (fun hlt => ?_) <;> simp (disch := (first | omega | (simp only [size_new, size_newm, size_wr, size_wrm] <;> omega) | fail)) only [go_sem, Nat.reduceBEq, Nat.reduceAdd, Nat.reduceMul, Nat.reduceLeDiff, ↓reduceIte, rd_new_lt, own_new_lt, mp_new_lt, rd_newm_lt, own_newm_lt, mp_newm_lt, rd_wr_ne, own_wr_ne, mp_wr_ne, rd_wrm_ne, own_wrm_ne, mp_wrm_ne, rd_new_eq, own_new_eq, mp_newm_eq]
        · rw [wrap64 (by omega) (by omega)]
          exact ⟨q, by omega, d * i + (d - q), k + 1, by rw [show d + 1 - (q : Int) = d - q + 1 by omega], by omega, by omega, by omega, r1.ext e2 hd, hI2, e1.trans e2,
            by rw [u1, hbm (d * i + (d - q)) (by rw [if_pos hlt])], by rw [u2, hbm (d * i + (d - q)) (by rw [if_pos hlt])]; simp only; omega⟩
        · rw [wrap64 (by omega) (by omega)]
          exact ⟨q, by omega, best, k + 1, by rw [show d + 1 - (q : Int) = d - q + 1 by omega], by omega, by omega, by omega, r1.ext e2 hd, hI2, e1.trans e2,
            by rw [u1, hbm best (by rw [if_neg (by rw [hlt]; simp)])], by rw [u2, hbm best (by rw [if_neg (by rw [hlt]; simp)])]; simp only; omega⟩
      · rw [wrap64 (by omega) (by omega)]
        have hbm : bestM lt l d i (q + 1) best = bestM lt l d i q best := by rw [bestM, if_neg hcl]
        exact ⟨q, by omega, best, k, by rw [show d + 1 - (q : Int) = d - q + 1 by omega], by omega, by omega, by omega, r1, i1, e1, by rw [u1, hbm], by rw [u2, hbm]⟩
    · have h0 : m = 0 := by omega
      subst h0
      refine .inr ⟨by omega, ?_, r1, ?_, e1⟩
      · rw [u1]; rfl
      · rw [u2]; exact i1

end Go.Proofs.Yteicchpglnamcaa
