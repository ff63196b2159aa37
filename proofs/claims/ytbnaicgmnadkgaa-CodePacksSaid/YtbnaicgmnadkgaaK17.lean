/-
  Texts put behind each other by a program: Kr, Kr26, Right27, CodeK, CodeU.
-/
import Derived.Test.YtbnaicgmnadkgaaK0
import Derived.Test.YtbnaicgmnadkgaaK14
import Derived.Test.YtbnaicgmnadkgaaK16
/-
  Is there room for words of such lengths: the program's way.
-/
set_option linter.unusedVariables false
set_option linter.unusedSimpArgs false
namespace Go.Proofs.Ytbnaicgmnadkgaa
open Go Go.Vc

/-- A length, at least one. -/
def one1 (x : Int) : Int := max x 1
def krN (l : List Int) : List Nat := l.map fun x => (one1 x).toNat
theorem one1_pos (x : Int) : 1 ≤ one1 x := by unfold one1; omega
theorem one1_idem (x : Int) : one1 (one1 x) = one1 x := by unfold one1; omega
theorem krN_len (l : List Int) : (krN l).length = l.length := by unfold krN; simp
theorem krN_at {l : List Int} {i : Nat} {x : Int} (h : l[i]? = some x) : (krN l)[i]? = some (one1 x).toNat := by unfold krN; rw [List.getElem?_map, h]; rfl

theorem one_step {l : List Int} {j : Nat} {x : Int} (hx : l[j]? = some x) : ((l.take j).map one1 ++ l.drop j).set j (one1 x) = (l.take (j + 1)).map one1 ++ l.drop (j + 1) := by
  obtain ⟨h1, h2⟩ := List.getElem?_eq_some_iff.1 hx
  have e : ((l.take j).map one1).length = j := by simp; omega
  rw [List.set_append, e, if_neg (by omega), Nat.sub_self, List.drop_eq_getElem_cons h1, List.set_cons_zero, List.take_add_one, hx, List.map_append, List.append_assoc]
  rfl

theorem KrInv.jumpZ {M : Nat} {ns : List Nat} {j free at_ n : Nat} (h : KrInv M ns j free at_) (hf : free = 0) (h2 : n ≤ M) : KrInv M ns j free n := by
  subst hf
  exact h.jump0 h2

theorem sortI_perm (xs : List Int) : (sortI xs).Perm xs := List.mergeSort_perm _ _
theorem sortI_sorted (xs : List Int) : (sortI xs).Pairwise (· ≤ ·) := by
  have := List.pairwise_mergeSort (le := fun x y : Int => decide (x ≤ y)) (fun a b c h1 h2 => by simp at *; omega) (fun a b => by simp; omega) xs
  exact this.imp fun h => by simpa using h

/-- Sorted numbers, as lengths. -/
theorem krN_sorted (l : List Int) : ((sortI (l.map one1)).map Int.toNat).Perm (krN l) := by
  have := (sortI_perm (l.map one1)).map Int.toNat
  rwa [List.map_map] at this

set_option maxHeartbeats 4000000 in
theorem lengths_Kraft_spec {H : Hp} {a : Option Addr} {c : Nat} {l : List Int} (h : RdS H 1 (.slice a l.length c) l.length (l.map i64)) (hl : l.length ≤ 1000000) {M : Nat} (hM : ∀ n ∈ krN l, n ≤ M) (hM2 : M ≤ 9223372036854775807) :
    CallH Try.prog n_lengths_Kraft [.slice a l.length c] H fun v H' => Post (v = i64 (krS M (krN l)) ∧ Fresh H H') := by
  refine c_lengths_Kraft ⟨rfl, ?_⟩
  simp (disch := (first | omega | (simp only [size_new, size_newm, size_wr, size_wrm] <;> omega) | fail)) only [go_sem, Nat.reduceBEq, Nat.reduceAdd, Nat.reduceMul, Nat.reduceLeDiff, ↓reduceIte, rd_new_lt, own_new_lt, mp_new_lt, rd_newm_lt, own_newm_lt, mp_newm_lt, rd_wr_ne, own_wr_ne, mp_wr_ne, rd_wrm_ne, own_wrm_ne, mp_wrm_ne, rd_new_eq, own_new_eq, mp_newm_eq, s_lengths_Kraft]
  refine (slices_Clone_spec h hl).mono ?_
  rintro r H1 ⟨f1, fp, s1, hfp⟩
  obtain ⟨ra, rc, rfl, hrc⟩ := slv_val s1
  simp (disch := (first | omega | (simp only [size_new, size_newm, size_wr, size_wrm] <;> omega) | fail)) only [go_sem, Nat.reduceBEq, Nat.reduceAdd, Nat.reduceMul, Nat.reduceLeDiff, ↓reduceIte, rd_new_lt, own_new_lt, mp_new_lt, rd_newm_lt, own_newm_lt, mp_newm_lt, rd_wr_ne, own_wr_ne, mp_wr_ne, rd_wrm_ne, own_wrm_ne, mp_wrm_ne, rd_new_eq, own_new_eq, mp_newm_eq]
  refine LoopV.intro (fun m env H' => Fresh H H' ∧ ∃ (j : Nat), m = l.length - j ∧ j ≤ l.length ∧ Sl H' 1 (.slice ra l.length rc) l.length (((l.take j).map one1 ++ l.drop j).map i64) fp ∧
    env = [(3, .slice ra l.length rc), (12, i64 l.length), (13, i64 j)]) l.length ⟨f1, 0, by omega, by omega, by simpa using s1, rfl⟩ ?_
  rintro m env H2 ⟨f2, j, hm, hj, s2, rfl⟩
  simp (disch := (first | omega | (simp only [size_new, size_newm, size_wr, size_wrm] <;> omega) | fail)) only [go_sem, Nat.reduceBEq, Nat.reduceAdd, Nat.reduceMul, Nat.reduceLeDiff, ↓reduceIte, rd_new_lt, own_new_lt, mp_new_lt, rd_newm_lt, own_newm_lt, mp_newm_lt, rd_wr_ne, own_wr_ne, mp_wr_ne, rd_wrm_ne, own_wrm_ne, mp_wrm_ne, rd_new_eq, own_new_eq, mp_newm_eq]
  refine Both.dec (fun hlt => ?_) (fun hlt => ?_) <;> simp (disch := (first | omega | (simp only [size_new, size_newm, size_wr, size_wrm] <;> omega) | fail)) only [go_sem, Nat.reduceBEq, Nat.reduceAdd, Nat.reduceMul, Nat.reduceLeDiff, ↓reduceIte, rd_new_lt, own_new_lt, mp_new_lt, rd_newm_lt, own_newm_lt, mp_newm_lt, rd_wr_ne, own_wr_ne, mp_wr_ne, rd_wrm_ne, own_wrm_ne, mp_wrm_ne, rd_new_eq, own_new_eq, mp_newm_eq]
  · have hj2 : j < l.length := by omega
    obtain ⟨x, hx⟩ : ∃ x, l[j]? = some x := ⟨_, List.getElem?_eq_getElem hj2⟩
    have hx2 : ((l.take j).map one1 ++ l.drop j)[j]? = some x := by
      rw [List.getElem?_append_right (by simp; omega)]
      simp only [List.length_map, List.length_take, Nat.min_eq_left hj]
      rw [List.getElem?_drop, Nat.sub_self, Nat.add_zero, hx]
    cases fp with
    | none => obtain ⟨_, h0, _⟩ := s2; omega
    | some b =>
      obtain ⟨_, rfl, lb, ho, hc⟩ := Sl.num s2 hx2
      have hll : l.length ≤ lb.length := by
        obtain ⟨_, l', c2, _, h2, h3, h4, _⟩ := s2
        rw [ho] at h2; injection h2 with h2; subst h2; omega
      refine ⟨⟨by omega, by omega⟩, ?_⟩
      simp (disch := (first | omega | (simp only [size_new, size_newm, size_wr, size_wrm] <;> omega) | fail)) only [go_sem, Nat.reduceBEq, Nat.reduceAdd, Nat.reduceMul, Nat.reduceLeDiff, ↓reduceIte, rd_new_lt, own_new_lt, mp_new_lt, rd_newm_lt, own_newm_lt, mp_newm_lt, rd_wr_ne, own_wr_ne, mp_wr_ne, rd_wrm_ne, own_wrm_ne, mp_wrm_ne, rd_new_eq, own_new_eq, mp_newm_eq, rd_of_own ho, Int.toNat_natCast, Nat.mul_one, Nat.zero_add, hc]
      refine ⟨⟨by omega, by omega⟩, ?_⟩
      simp (disch := (first | omega | (simp only [size_new, size_newm, size_wr, size_wrm] <;> omega) | fail)) only [go_sem, Nat.reduceBEq, Nat.reduceAdd, Nat.reduceMul, Nat.reduceLeDiff, ↓reduceIte, rd_new_lt, own_new_lt, mp_new_lt, rd_newm_lt, own_newm_lt, mp_newm_lt, rd_wr_ne, own_wr_ne, mp_wr_ne, rd_wrm_ne, own_wrm_ne, mp_wrm_ne, rd_new_eq, own_new_eq, mp_newm_eq, ho, Int.toNat_natCast, Nat.mul_one, Nat.zero_add]
      refine ⟨by omega, ?_⟩
      have s3 := s2.set1 ho j (i64 (one1 x))
      have e3 : Fresh H (H2.wr b (lb.set j (i64 (one1 x)))) := f2.then ((Ext.refl (fun z => z = b) _).wr (fun _ => rfl) _) (fun z hz => by have := hfp b rfl; omega)
      rw [← List.map_set, one_step hx] at s3
      have hif : (if 1 > x then (1 : Int) else x) = one1 x := by unfold one1; split <;> omega
      simp (disch := (first | omega | (simp only [size_new, size_newm, size_wr, size_wrm] <;> omega) | fail)) only [go_sem, Nat.reduceBEq, Nat.reduceAdd, Nat.reduceMul, Nat.reduceLeDiff, ↓reduceIte, rd_new_lt, own_new_lt, mp_new_lt, rd_newm_lt, own_newm_lt, mp_newm_lt, rd_wr_ne, own_wr_ne, mp_wr_ne, rd_wrm_ne, own_wrm_ne, mp_wrm_ne, rd_new_eq, own_new_eq, mp_newm_eq]
      rw [hif, wrap64 (n := (j : Int) + 1) (by omega) (by omega)]
      exact ⟨l.length - (j + 1), by omega, e3, j + 1, rfl, by omega, s3, rfl⟩
  have hj2 : j = l.length := by omega
  subst hj2
  rw [List.take_length, List.drop_length, List.append_nil] at s2
  have hlm : (l.map one1).length = l.length := List.length_map ..
  rw [← hlm] at s2 ⊢
  refine (slices_Sort_spec s2 (by omega)).mono ?_
  rintro _ H3 ⟨rfl, s3, e3⟩
  have f3 : Fresh H H3 := f2.then e3 (fun z hz => (hfp z hz).1)
  have hL : (sortI (l.map one1)).length = l.length := by rw [sortI_len, hlm]
  have hlow : ∀ x ∈ sortI (l.map one1), 1 ≤ x ∧ x ≤ M := fun x hx => by
    have := (sortI_perm (l.map one1)).mem_iff.1 hx
    obtain ⟨y, hy, rfl⟩ := List.mem_map.1 this
    have h1 := one1_pos y
    have h2 := hM (one1 y).toNat (List.mem_map.2 ⟨y, hy, rfl⟩)
    omega
  rw [hlm, ← hL] at s3 ⊢
  have hperm := krN_sorted l
  have hsort := sortI_sorted (l.map one1)
  generalize hLL : sortI (l.map one1) = L at *
  generalize hns0 : L.map Int.toNat = ns at *
  have hnl : ns.length = L.length := by rw [← hns0]; simp
  simp (disch := (first | omega | (simp only [size_new, size_newm, size_wr, size_wrm] <;> omega) | fail)) only [go_sem, Nat.reduceBEq, Nat.reduceAdd, Nat.reduceMul, Nat.reduceLeDiff, ↓reduceIte, rd_new_lt, own_new_lt, mp_new_lt, rd_newm_lt, own_newm_lt, mp_newm_lt, rd_wr_ne, own_wr_ne, mp_wr_ne, rd_wrm_ne, own_wrm_ne, mp_wrm_ne, rd_new_eq, own_new_eq, mp_newm_eq]
  refine LoopV.intro (fun m env H' => H' = H3 ∧ ∃ (j free at_ : Nat), m = L.length - j ∧ j ≤ L.length ∧ KrInv M ns j free at_ ∧ free ≤ 2 * L.length + 1 ∧ (∀ x, L[j]? = some x → (at_ : Int) ≤ x) ∧
    env = [(3, .slice ra L.length rc), (5, i64 free), (6, i64 at_), (27, .slice ra L.length rc), (28, i64 L.length), (29, i64 j)]) L.length ⟨rfl, 0, 1, 0, by omega, by omega, KrInv.begin M ns, by omega, fun x hx => by have := hlow x (List.mem_of_getElem? hx); omega, rfl⟩ ?_
  rintro m env H4 ⟨rfl, j, free, at_, hm, hj, hk, hfr, hat, rfl⟩
  simp (disch := (first | omega | (simp only [size_new, size_newm, size_wr, size_wrm] <;> omega) | fail)) only [go_sem, Nat.reduceBEq, Nat.reduceAdd, Nat.reduceMul, Nat.reduceLeDiff, ↓reduceIte, rd_new_lt, own_new_lt, mp_new_lt, rd_newm_lt, own_newm_lt, mp_newm_lt, rd_wr_ne, own_wr_ne, mp_wr_ne, rd_wrm_ne, own_wrm_ne, mp_wrm_ne, rd_new_eq, own_new_eq, mp_newm_eq]
  refine Both.dec (fun hlt => ?_) (fun hlt => ?_) <;> simp (disch := (first | omega | (simp only [size_new, size_newm, size_wr, size_wrm] <;> omega) | fail)) only [go_sem, Nat.reduceBEq, Nat.reduceAdd, Nat.reduceMul, Nat.reduceLeDiff, ↓reduceIte, rd_new_lt, own_new_lt, mp_new_lt, rd_newm_lt, own_newm_lt, mp_newm_lt, rd_wr_ne, own_wr_ne, mp_wr_ne, rd_wrm_ne, own_wrm_ne, mp_wrm_ne, rd_new_eq, own_new_eq, mp_newm_eq]
  · obtain ⟨x, hx⟩ : ∃ x, L[j]? = some x := ⟨_, List.getElem?_eq_getElem (by omega)⟩
    obtain ⟨x1, x2⟩ := hlow x (List.mem_of_getElem? hx)
    have hns : ns[j]? = some x.toNat := by rw [← hns0, List.getElem?_map, hx]; rfl
    have hax := hat x hx
    obtain ⟨_, b, o, lb, rfl, hrd, hcell⟩ := RdS.num s3.rd hx
    refine ⟨⟨by omega, by omega⟩, ?_⟩
    simp (disch := (first | omega | (simp only [size_new, size_newm, size_wr, size_wrm] <;> omega) | fail)) only [go_sem, Nat.reduceBEq, Nat.reduceAdd, Nat.reduceMul, Nat.reduceLeDiff, ↓reduceIte, rd_new_lt, own_new_lt, mp_new_lt, rd_newm_lt, own_newm_lt, mp_newm_lt, rd_wr_ne, own_wr_ne, mp_wr_ne, rd_wrm_ne, own_wrm_ne, mp_wrm_ne, rd_new_eq, own_new_eq, mp_newm_eq, hrd, Int.toNat_natCast, Nat.mul_one, hcell]
    refine LoopV.intro (fun m' env H' => H' = H4 ∧ ∃ (free at_ : Nat), m' = x.toNat - at_ ∧ KrInv M ns j free at_ ∧ free ≤ 2 * L.length + 1 ∧ (at_ : Int) ≤ x ∧
      env = [(3, .slice (some ⟨b, o, none⟩) L.length rc), (5, i64 free), (6, i64 at_), (8, i64 x), (27, .slice (some ⟨b, o, none⟩) L.length rc), (28, i64 L.length), (29, i64 j)]) (x.toNat - at_) ⟨rfl, free, at_, rfl, hk, hfr, hax, rfl⟩ ?_
    clear hk hfr hax hat
    rintro m' env H5 ⟨rfl, free, at_, hm', hk, hfr, hax, rfl⟩
    simp (disch := (first | omega | (simp only [size_new, size_newm, size_wr, size_wrm] <;> omega) | fail)) only [go_sem, Nat.reduceBEq, Nat.reduceAdd, Nat.reduceMul, Nat.reduceLeDiff, ↓reduceIte, rd_new_lt, own_new_lt, mp_new_lt, rd_newm_lt, own_newm_lt, mp_newm_lt, rd_wr_ne, own_wr_ne, mp_wr_ne, rd_wrm_ne, own_wrm_ne, mp_wrm_ne, rd_new_eq, own_new_eq, mp_newm_eq]
    refine Both.dec (fun g1 => ?_) (fun g1 => ?_) <;> simp (disch := (first | omega | (simp only [size_new, size_newm, size_wr, size_wrm] <;> omega) | fail)) only [go_sem, Nat.reduceBEq, Nat.reduceAdd, Nat.reduceMul, Nat.reduceLeDiff, ↓reduceIte, rd_new_lt, own_new_lt, mp_new_lt, rd_newm_lt, own_newm_lt, mp_newm_lt, rd_wr_ne, own_wr_ne, mp_wr_ne, rd_wrm_ne, own_wrm_ne, mp_wrm_ne, rd_new_eq, own_new_eq, mp_newm_eq]
    · refine Both.dec (fun g2 => ?_) (fun g2 => ?_) <;> simp (disch := (first | omega | (simp only [size_new, size_newm, size_wr, size_wrm] <;> omega) | fail)) only [go_sem, Nat.reduceBEq, Nat.reduceAdd, Nat.reduceMul, Nat.reduceLeDiff, ↓reduceIte, rd_new_lt, own_new_lt, mp_new_lt, rd_newm_lt, own_newm_lt, mp_newm_lt, rd_wr_ne, own_wr_ne, mp_wr_ne, rd_wrm_ne, own_wrm_ne, mp_wrm_ne, rd_new_eq, own_new_eq, mp_newm_eq]
      · refine Both.dec (fun g3 => ?_) (fun g3 => ?_) <;> simp (disch := (first | omega | (simp only [size_new, size_newm, size_wr, size_wrm] <;> omega) | fail)) only [go_sem, Nat.reduceBEq, Nat.reduceAdd, Nat.reduceMul, Nat.reduceLeDiff, ↓reduceIte, rd_new_lt, own_new_lt, mp_new_lt, rd_newm_lt, own_newm_lt, mp_newm_lt, rd_wr_ne, own_wr_ne, mp_wr_ne, rd_wrm_ne, own_wrm_ne, mp_wrm_ne, rd_new_eq, own_new_eq, mp_newm_eq]
        · rw [wrap64 (n := (free : Int) * 2) (by omega) (by omega), wrap64 (n := (at_ : Int) + 1) (by omega) (by omega)]
          exact ⟨x.toNat - (at_ + 1), by omega, trivial, free * 2, at_ + 1, rfl, hk.double (by omega), by omega, by omega, rfl⟩
        · have hK : KrInv M ns j free x.toNat := hk.jump (by omega) (by omega) (by omega)
          refine Both.dec (fun hz => ?_) (fun hz => ?_) <;> simp (disch := (first | omega | (simp only [size_new, size_newm, size_wr, size_wrm] <;> omega) | fail)) only [go_sem, Nat.reduceBEq, Nat.reduceAdd, Nat.reduceMul, Nat.reduceLeDiff, ↓reduceIte, rd_new_lt, own_new_lt, mp_new_lt, rd_newm_lt, own_newm_lt, mp_newm_lt, rd_wr_ne, own_wr_ne, mp_wr_ne, rd_wrm_ne, own_wrm_ne, mp_wrm_ne, rd_new_eq, own_new_eq, mp_newm_eq]
          · have hz0 : free = 0 := by omega
            subst hz0
            rw [← krS_perm M hperm, hK.none (m := x.toNat) hns]
            exact ⟨rfl, f3⟩
          · rw [wrap64 (n := (free : Int) - 1) (by omega) (by omega), wrap64 (n := (j : Int) + 1) (by omega) (by omega)]
            refine ⟨L.length - (j + 1), by omega, trivial, j + 1, free - 1, x.toNat, rfl, by omega, hK.use hns (by omega), by omega, fun y hy => ?_, by rw [show ((free - 1 : Nat) : Int) = (free : Int) - 1 by omega, show ((x.toNat : Nat) : Int) = x by omega]; rfl⟩
            obtain ⟨hy1, hy2⟩ := List.getElem?_eq_some_iff.1 hy
            obtain ⟨hx1, hx2⟩ := List.getElem?_eq_some_iff.1 hx
            have := List.pairwise_iff_getElem.1 hsort j (j + 1) hx1 hy1 (by omega)
            rw [hy2, hx2] at this
            omega
      · have hK : KrInv M ns j free x.toNat := hk.jumpZ (by omega) (by omega)
        refine Both.dec (fun hz => ?_) (fun hz => ?_) <;> simp (disch := (first | omega | (simp only [size_new, size_newm, size_wr, size_wrm] <;> omega) | fail)) only [go_sem, Nat.reduceBEq, Nat.reduceAdd, Nat.reduceMul, Nat.reduceLeDiff, ↓reduceIte, rd_new_lt, own_new_lt, mp_new_lt, rd_newm_lt, own_newm_lt, mp_newm_lt, rd_wr_ne, own_wr_ne, mp_wr_ne, rd_wrm_ne, own_wrm_ne, mp_wrm_ne, rd_new_eq, own_new_eq, mp_newm_eq]
        · have hz0 : free = 0 := by omega
          subst hz0
          rw [← krS_perm M hperm, hK.none (m := x.toNat) hns]
          exact ⟨rfl, f3⟩
        · rw [wrap64 (n := (free : Int) - 1) (by omega) (by omega), wrap64 (n := (j : Int) + 1) (by omega) (by omega)]
          refine ⟨L.length - (j + 1), by omega, trivial, j + 1, free - 1, x.toNat, rfl, by omega, hK.use hns (by omega), by omega, fun y hy => ?_, by rw [show ((free - 1 : Nat) : Int) = (free : Int) - 1 by omega, show ((x.toNat : Nat) : Int) = x by omega]; rfl⟩
          obtain ⟨hy1, hy2⟩ := List.getElem?_eq_some_iff.1 hy
          obtain ⟨hx1, hx2⟩ := List.getElem?_eq_some_iff.1 hx
          have := List.pairwise_iff_getElem.1 hsort j (j + 1) hx1 hy1 (by omega)
          rw [hy2, hx2] at this
          omega
    · have hK : KrInv M ns j free x.toNat := (show x.toNat = at_ by omega) ▸ hk
      refine Both.dec (fun hz => ?_) (fun hz => ?_) <;> simp (disch := (first | omega | (simp only [size_new, size_newm, size_wr, size_wrm] <;> omega) | fail)) only [go_sem, Nat.reduceBEq, Nat.reduceAdd, Nat.reduceMul, Nat.reduceLeDiff, ↓reduceIte, rd_new_lt, own_new_lt, mp_new_lt, rd_newm_lt, own_newm_lt, mp_newm_lt, rd_wr_ne, own_wr_ne, mp_wr_ne, rd_wrm_ne, own_wrm_ne, mp_wrm_ne, rd_new_eq, own_new_eq, mp_newm_eq]
      · have hz0 : free = 0 := by omega
        subst hz0
        rw [← krS_perm M hperm, hK.none (m := x.toNat) hns]
        exact ⟨rfl, f3⟩
      · rw [wrap64 (n := (free : Int) - 1) (by omega) (by omega), wrap64 (n := (j : Int) + 1) (by omega) (by omega)]
        refine ⟨L.length - (j + 1), by omega, trivial, j + 1, free - 1, x.toNat, rfl, by omega, hK.use hns (by omega), by omega, fun y hy => ?_, by rw [show ((free - 1 : Nat) : Int) = (free : Int) - 1 by omega, show ((x.toNat : Nat) : Int) = x by omega]; rfl⟩
        obtain ⟨hy1, hy2⟩ := List.getElem?_eq_some_iff.1 hy
        obtain ⟨hx1, hx2⟩ := List.getElem?_eq_some_iff.1 hx
        have := List.pairwise_iff_getElem.1 hsort j (j + 1) hx1 hy1 (by omega)
        rw [hy2, hx2] at this
        omega
  · have hj2 : j = L.length := by omega
    subst hj2
    rw [← hnl] at hk
    have hd := hk.done
    rw [krS_perm M hperm] at hd
    refine Both.dec (fun hz => ?_) (fun hz => ?_) <;> simp (disch := (first | omega | (simp only [size_new, size_newm, size_wr, size_wrm] <;> omega) | fail)) only [go_sem, Nat.reduceBEq, Nat.reduceAdd, Nat.reduceMul, Nat.reduceLeDiff, ↓reduceIte, rd_new_lt, own_new_lt, mp_new_lt, rd_newm_lt, own_newm_lt, mp_newm_lt, rd_wr_ne, own_wr_ne, mp_wr_ne, rd_wrm_ne, own_wrm_ne, mp_wrm_ne, rd_new_eq, own_new_eq, mp_newm_eq]
    · rw [hd, if_pos (by omega)]
      exact ⟨rfl, f3⟩
    · rw [hd, if_neg (by omega)]
      exact ⟨rfl, f3⟩

end Go.Proofs.Ytbnaicgmnadkgaa

/-
  Is there room for words of such lengths: the document's way.
-/
set_option linter.unusedVariables false
set_option linter.unusedSimpArgs false
namespace Go.Proofs.Ytbnaicgmnadkgaa
open Go Go.Vc

def above (ns : List Nat) (k : Nat) : List Nat := ns.filter fun y => decide (k < y)
def same (ns : List Nat) (k : Nat) : Nat := ns.countP fun y => decide (y = k)
def under (ns : List Nat) (k : Nat) : Nat := ns.foldl (fun m y => if y < k then max m y else m) 0

theorem above_step (M : Nat) (k : Nat) : ∀ ns : List Nat, kS M (above ns k) = kS M (above ns (k + 1)) + same ns (k + 1) * 2 ^ (M - (k + 1)) := by
  intro ns
  induction ns with
  | nil => simp [above, same, kS]
  | cons y ns ih =>
    unfold above same at *
    rw [List.filter_cons, List.filter_cons, List.countP_cons]
    by_cases h1 : k + 1 < y
    · rw [if_pos (by simp; omega), if_pos (by simp; omega), if_neg (by simp; omega), kS_cons, kS_cons, ih]
      simp only [Nat.add_zero]
      omega
    · by_cases h2 : y = k + 1
      · rw [if_pos (by simp; omega), if_neg (by simp; omega), if_pos (by simp; omega), kS_cons, ih, h2, Nat.add_mul]
        omega
      · rw [if_neg (by simp; omega), if_neg (by simp; omega), if_neg (by simp; omega), ih]
        simp only [Nat.add_zero]

theorem above_len (k : Nat) : ∀ ns : List Nat, (above ns k).length = (above ns (k + 1)).length + same ns (k + 1) := by
  intro ns
  induction ns with
  | nil => simp [above, same]
  | cons y ns ih =>
    unfold above same at *
    rw [List.filter_cons, List.filter_cons, List.countP_cons]
    by_cases h1 : k + 1 < y
    · rw [if_pos (by simp; omega), if_pos (by simp; omega), if_neg (by simp; omega), List.length_cons, List.length_cons, ih]
      omega
    · by_cases h2 : y = k + 1
      · rw [if_pos (by simp; omega), if_neg (by simp; omega), if_pos (by simp; omega), List.length_cons, ih]
        omega
      · rw [if_neg (by simp; omega), if_neg (by simp; omega), if_neg (by simp; omega), ih]
        simp only [Nat.add_zero]

theorem above_none {ns : List Nat} {k : Nat} (h : ∀ y ∈ ns, y ≤ k) : above ns k = [] := by
  unfold above
  rw [List.filter_eq_nil_iff]
  intro y hy
  have := h y hy
  simp; omega
theorem above_all {ns : List Nat} (h : ∀ y ∈ ns, 1 ≤ y) : above ns 0 = ns := by
  unfold above
  rw [List.filter_eq_self]
  intro y hy
  have := h y hy
  simp; omega
theorem above_gap {ns : List Nat} {k k' : Nat} (hk : k' ≤ k) (h : ∀ y ∈ ns, ¬ (k' < y ∧ y ≤ k)) : above ns k = above ns k' := by
  unfold above
  apply List.filter_congr
  intro y hy
  have := h y hy
  rw [decide_eq_decide]
  omega

theorem under_snoc (ns : List Nat) (y k : Nat) : under (ns ++ [y]) k = if y < k then max (under ns k) y else under ns k := by unfold under; rw [List.foldl_append]; rfl
theorem under_lt {k : Nat} (hk : 0 < k) : ∀ ns : List Nat, under ns k < k ∧ ∀ y ∈ ns, y < k → y ≤ under ns k := by
  intro ns
  have : ∀ r : List Nat, under r.reverse k < k ∧ ∀ y ∈ r.reverse, y < k → y ≤ under r.reverse k := by
    intro r
    induction r with
    | nil => exact ⟨hk, by simp⟩
    | cons x r ih =>
      rw [List.reverse_cons, under_snoc]
      refine ⟨by split <;> omega, fun y hy hlt => ?_⟩
      rcases List.mem_append.1 hy with hy | hy
      · have := ih.2 y hy hlt
        split <;> omega
      · rw [List.mem_singleton] at hy
        subst hy
        rw [if_pos hlt]
        omega
  have := this ns.reverse
  rwa [List.reverse_reverse] at this
theorem same_snoc (ns : List Nat) (y k : Nat) : same (ns ++ [y]) k = same ns k + if y = k then 1 else 0 := by
  unfold same
  rw [List.countP_append, List.countP_cons]
  simp
theorem krN_take {l : List Int} {j : Nat} {x : Int} (hx : l[j]? = some x) : krN (l.take (j + 1)) = krN (l.take j) ++ [(one1 x).toNat] := by
  unfold krN
  rw [List.take_add_one, hx, List.map_append]
  rfl

set_option maxHeartbeats 4000000 in
theorem ref26_Kraft_spec {H : Hp} {a : Option Addr} {c : Nat} {l : List Int} (h : RdS H 1 (.slice a l.length c) l.length (l.map i64)) (hl : l.length ≤ 1000000) {M : Nat} (hM : ∀ n ∈ krN l, n ≤ M) (hM2 : M ≤ 9223372036854775807) :
    CallH Try.prog n_ref26_Kraft [.slice a l.length c] H fun v H' => Post (v = i64 (krS M (krN l)) ∧ Fresh H H') := by
  refine c_ref26_Kraft ⟨rfl, ?_⟩
  simp (disch := (first | omega | (simp only [size_new, size_newm, size_wr, size_wrm] <;> omega) | fail)) only [go_sem, Nat.reduceBEq, Nat.reduceAdd, Nat.reduceMul, Nat.reduceLeDiff, ↓reduceIte, rd_new_lt, own_new_lt, mp_new_lt, rd_newm_lt, own_newm_lt, mp_newm_lt, rd_wr_ne, own_wr_ne, mp_wr_ne, rd_wrm_ne, own_wrm_ne, mp_wrm_ne, rd_new_eq, own_new_eq, mp_newm_eq, s_ref26_Kraft]
  refine LoopV.intro (fun m env H' => H' = H ∧ ∃ (j at_ : Nat), m = l.length - j ∧ j ≤ l.length ∧ (∀ y ∈ krN (l.take j), y ≤ at_) ∧ at_ ≤ M ∧
    env = [(0, .slice a l.length c), (3, i64 0), (4, .bool false), (5, i64 at_), (11, .slice a l.length c), (12, i64 l.length), (13, i64 j)]) l.length ⟨rfl, 0, 0, by omega, by omega, by simp [krN], by omega, rfl⟩ ?_
  rintro m env H1 ⟨rfl, j, at_, hm, hj, hat, hatM, rfl⟩
  simp (disch := (first | omega | (simp only [size_new, size_newm, size_wr, size_wrm] <;> omega) | fail)) only [go_sem, Nat.reduceBEq, Nat.reduceAdd, Nat.reduceMul, Nat.reduceLeDiff, ↓reduceIte, rd_new_lt, own_new_lt, mp_new_lt, rd_newm_lt, own_newm_lt, mp_newm_lt, rd_wr_ne, own_wr_ne, mp_wr_ne, rd_wrm_ne, own_wrm_ne, mp_wrm_ne, rd_new_eq, own_new_eq, mp_newm_eq]
  refine Both.dec (fun hlt => ?_) (fun hlt => ?_) <;> simp (disch := (first | omega | (simp only [size_new, size_newm, size_wr, size_wrm] <;> omega) | fail)) only [go_sem, Nat.reduceBEq, Nat.reduceAdd, Nat.reduceMul, Nat.reduceLeDiff, ↓reduceIte, rd_new_lt, own_new_lt, mp_new_lt, rd_newm_lt, own_newm_lt, mp_newm_lt, rd_wr_ne, own_wr_ne, mp_wr_ne, rd_wrm_ne, own_wrm_ne, mp_wrm_ne, rd_new_eq, own_new_eq, mp_newm_eq]
  · obtain ⟨x, hx⟩ : ∃ x, l[j]? = some x := ⟨_, List.getElem?_eq_getElem (by omega)⟩
    have hxM := hM (one1 x).toNat (List.mem_of_getElem? (krN_at hx))
    have hx1 := one1_pos x
    obtain ⟨_, b, o, lb, rfl, hrd, hcell⟩ := RdS.num h hx
    refine ⟨⟨by omega, by omega⟩, ?_⟩
    simp (disch := (first | omega | (simp only [size_new, size_newm, size_wr, size_wrm] <;> omega) | fail)) only [go_sem, Nat.reduceBEq, Nat.reduceAdd, Nat.reduceMul, Nat.reduceLeDiff, ↓reduceIte, rd_new_lt, own_new_lt, mp_new_lt, rd_newm_lt, own_newm_lt, mp_newm_lt, rd_wr_ne, own_wr_ne, mp_wr_ne, rd_wrm_ne, own_wrm_ne, mp_wrm_ne, rd_new_eq, own_new_eq, mp_newm_eq, hrd, Int.toNat_natCast, Nat.mul_one, hcell]
    have hif : (if 1 > (if x > (at_ : Int) then x else (at_ : Int)) then (1 : Int) else if x > (at_ : Int) then x else (at_ : Int)) = ((max at_ (one1 x).toNat : Nat) : Int) := by
      unfold one1
      split <;> split <;> omega
    rw [hif, wrap64 (n := (j : Int) + 1) (by omega) (by omega)]
    refine ⟨l.length - (j + 1), by omega, trivial, j + 1, max at_ (one1 x).toNat, rfl, by omega, fun y hy => ?_, by omega, rfl⟩
    rw [krN_take hx] at hy
    rcases List.mem_append.1 hy with hy | hy
    · have := hat y hy; omega
    · rw [List.mem_singleton] at hy; omega
  have hj2 : j = l.length := by omega
  subst hj2
  rw [List.take_length] at hat
  have hpos : ∀ y ∈ krN l, 1 ≤ y := fun y hy => by
    obtain ⟨x, hx, rfl⟩ := List.mem_map.1 hy
    have := one1_pos x
    omega
  have hu0 : KrUp M (kS M (above (krN l) at_)) at_ 0 false := by rw [above_none hat]; exact KrUp.zero M at_
  refine LoopV.intro (fun m env H' => H' = H1 ∧ ∃ (n at_ : Nat) (part : Bool), m = at_ ∧ at_ ≤ M ∧ KrUp M (kS M (above (krN l) at_)) at_ n part ∧ n ≤ (above (krN l) at_).length ∧
    env = [(0, .slice a l.length c), (3, i64 n), (4, .bool part), (5, i64 at_)]) at_ ⟨rfl, 0, at_, false, rfl, hatM, hu0, by omega, rfl⟩ ?_
  clear hu0 hat hatM hlt hm hj
  clear at_ m
  rintro m env H2 ⟨rfl, n, k, part, hm, hkM, hu, hn, rfl⟩
  have hal : (above (krN l) k).length ≤ l.length := by
    have := List.length_filter_le (fun y => decide (k < y)) (krN l)
    rw [krN_len] at this
    exact this
  simp (disch := (first | omega | (simp only [size_new, size_newm, size_wr, size_wrm] <;> omega) | fail)) only [go_sem, Nat.reduceBEq, Nat.reduceAdd, Nat.reduceMul, Nat.reduceLeDiff, ↓reduceIte, rd_new_lt, own_new_lt, mp_new_lt, rd_newm_lt, own_newm_lt, mp_newm_lt, rd_wr_ne, own_wr_ne, mp_wr_ne, rd_wrm_ne, own_wrm_ne, mp_wrm_ne, rd_new_eq, own_new_eq, mp_newm_eq]
  refine Both.dec (fun hlt => ?_) (fun hlt => ?_) <;> simp (disch := (first | omega | (simp only [size_new, size_newm, size_wr, size_wrm] <;> omega) | fail)) only [go_sem, Nat.reduceBEq, Nat.reduceAdd, Nat.reduceMul, Nat.reduceLeDiff, ↓reduceIte, rd_new_lt, own_new_lt, mp_new_lt, rd_newm_lt, own_newm_lt, mp_newm_lt, rd_wr_ne, own_wr_ne, mp_wr_ne, rd_wrm_ne, own_wrm_ne, mp_wrm_ne, rd_new_eq, own_new_eq, mp_newm_eq]
  rotate_left
  · have hk0 : k = 0 := by omega
    subst hk0
    rw [above_all hpos] at hu
    have he := hu.end_
    rw [he]
    refine Both.dec (fun g1 => ?_) (fun g1 => ?_) <;> simp (disch := (first | omega | (simp only [size_new, size_newm, size_wr, size_wrm] <;> omega) | fail)) only [go_sem, Nat.reduceBEq, Nat.reduceAdd, Nat.reduceMul, Nat.reduceLeDiff, ↓reduceIte, rd_new_lt, own_new_lt, mp_new_lt, rd_newm_lt, own_newm_lt, mp_newm_lt, rd_wr_ne, own_wr_ne, mp_wr_ne, rd_wrm_ne, own_wrm_ne, mp_wrm_ne, rd_new_eq, own_new_eq, mp_newm_eq]
    · rw [if_pos (.inl (by omega))]
      exact ⟨rfl, Ext.refl _ _⟩
    · refine Both.dec (fun g2 => ?_) (fun g2 => ?_) <;> simp (disch := (first | omega | (simp only [size_new, size_newm, size_wr, size_wrm] <;> omega) | fail)) only [go_sem, Nat.reduceBEq, Nat.reduceAdd, Nat.reduceMul, Nat.reduceLeDiff, ↓reduceIte, rd_new_lt, own_new_lt, mp_new_lt, rd_newm_lt, own_newm_lt, mp_newm_lt, rd_wr_ne, own_wr_ne, mp_wr_ne, rd_wrm_ne, own_wrm_ne, mp_wrm_ne, rd_new_eq, own_new_eq, mp_newm_eq]
      · cases part
        · simp (disch := (first | omega | (simp only [size_new, size_newm, size_wr, size_wrm] <;> omega) | fail)) only [go_sem, Nat.reduceBEq, Nat.reduceAdd, Nat.reduceMul, Nat.reduceLeDiff, ↓reduceIte, rd_new_lt, own_new_lt, mp_new_lt, rd_newm_lt, own_newm_lt, mp_newm_lt, rd_wr_ne, own_wr_ne, mp_wr_ne, rd_wrm_ne, own_wrm_ne, mp_wrm_ne, rd_new_eq, own_new_eq, mp_newm_eq]
          refine Both.dec (fun g3 => ?_) (fun g3 => ?_) <;> simp (disch := (first | omega | (simp only [size_new, size_newm, size_wr, size_wrm] <;> omega) | fail)) only [go_sem, Nat.reduceBEq, Nat.reduceAdd, Nat.reduceMul, Nat.reduceLeDiff, ↓reduceIte, rd_new_lt, own_new_lt, mp_new_lt, rd_newm_lt, own_newm_lt, mp_newm_lt, rd_wr_ne, own_wr_ne, mp_wr_ne, rd_wrm_ne, own_wrm_ne, mp_wrm_ne, rd_new_eq, own_new_eq, mp_newm_eq]
          · rw [if_neg (by simp; omega), if_pos (by omega)]
            exact ⟨rfl, Ext.refl _ _⟩
          · omega
        · simp (disch := (first | omega | (simp only [size_new, size_newm, size_wr, size_wrm] <;> omega) | fail)) only [go_sem, Nat.reduceBEq, Nat.reduceAdd, Nat.reduceMul, Nat.reduceLeDiff, ↓reduceIte, rd_new_lt, own_new_lt, mp_new_lt, rd_newm_lt, own_newm_lt, mp_newm_lt, rd_wr_ne, own_wr_ne, mp_wr_ne, rd_wrm_ne, own_wrm_ne, mp_wrm_ne, rd_new_eq, own_new_eq, mp_newm_eq]
          rw [if_pos (.inr ⟨by omega, rfl⟩)]
          exact ⟨rfl, Ext.refl _ _⟩
      · refine Both.dec (fun g3 => ?_) (fun g3 => ?_) <;> simp (disch := (first | omega | (simp only [size_new, size_newm, size_wr, size_wrm] <;> omega) | fail)) only [go_sem, Nat.reduceBEq, Nat.reduceAdd, Nat.reduceMul, Nat.reduceLeDiff, ↓reduceIte, rd_new_lt, own_new_lt, mp_new_lt, rd_newm_lt, own_newm_lt, mp_newm_lt, rd_wr_ne, own_wr_ne, mp_wr_ne, rd_wrm_ne, own_wrm_ne, mp_wrm_ne, rd_new_eq, own_new_eq, mp_newm_eq]
        · omega
        · rw [if_neg (by omega), if_neg (by omega)]
          exact ⟨rfl, Ext.refl _ _⟩
  have hk1 : k - 1 + 1 = k := by omega
  refine LoopV.intro (fun m' env H' => H' = H2 ∧ ∃ (j : Nat), m' = l.length - j ∧ j ≤ l.length ∧
    env = [(0, .slice a l.length c), (3, i64 ((n + same (krN (l.take j)) k : Nat) : Int)), (4, .bool part), (5, i64 k), (8, i64 (under (krN (l.take j)) k)), (23, .slice a l.length c), (24, i64 l.length), (25, i64 j)]) l.length ⟨rfl, 0, by omega, by omega, rfl⟩ ?_
  rintro m' env H3 ⟨rfl, j, hm', hj, rfl⟩
  simp (disch := (first | omega | (simp only [size_new, size_newm, size_wr, size_wrm] <;> omega) | fail)) only [go_sem, Nat.reduceBEq, Nat.reduceAdd, Nat.reduceMul, Nat.reduceLeDiff, ↓reduceIte, rd_new_lt, own_new_lt, mp_new_lt, rd_newm_lt, own_newm_lt, mp_newm_lt, rd_wr_ne, own_wr_ne, mp_wr_ne, rd_wrm_ne, own_wrm_ne, mp_wrm_ne, rd_new_eq, own_new_eq, mp_newm_eq]
  refine Both.dec (fun hlt2 => ?_) (fun hlt2 => ?_) <;> simp (disch := (first | omega | (simp only [size_new, size_newm, size_wr, size_wrm] <;> omega) | fail)) only [go_sem, Nat.reduceBEq, Nat.reduceAdd, Nat.reduceMul, Nat.reduceLeDiff, ↓reduceIte, rd_new_lt, own_new_lt, mp_new_lt, rd_newm_lt, own_newm_lt, mp_newm_lt, rd_wr_ne, own_wr_ne, mp_wr_ne, rd_wrm_ne, own_wrm_ne, mp_wrm_ne, rd_new_eq, own_new_eq, mp_newm_eq]
  · obtain ⟨x, hx⟩ : ∃ x, l[j]? = some x := ⟨_, List.getElem?_eq_getElem (by omega)⟩
    have hxM := hM (one1 x).toNat (List.mem_of_getElem? (krN_at hx))
    have hx1 := one1_pos x
    obtain ⟨_, b, o, lb, rfl, hrd, hcell⟩ := RdS.num h hx
    refine ⟨⟨by omega, by omega⟩, ?_⟩
    simp (disch := (first | omega | (simp only [size_new, size_newm, size_wr, size_wrm] <;> omega) | fail)) only [go_sem, Nat.reduceBEq, Nat.reduceAdd, Nat.reduceMul, Nat.reduceLeDiff, ↓reduceIte, rd_new_lt, own_new_lt, mp_new_lt, rd_newm_lt, own_newm_lt, mp_newm_lt, rd_wr_ne, own_wr_ne, mp_wr_ne, rd_wrm_ne, own_wrm_ne, mp_wrm_ne, rd_new_eq, own_new_eq, mp_newm_eq, hrd, Int.toNat_natCast, Nat.mul_one, hcell]
    have hi1 : (if 1 > x then (1 : Int) else x) = (((one1 x).toNat : Nat) : Int) := by unfold one1; split <;> omega
    have hsm : same (krN (l.take j)) k ≤ l.length := by
      have := List.countP_le_length (p := fun y => decide (y = k)) (l := krN (l.take j))
      rw [krN_len, List.length_take] at this
      exact Nat.le_trans this (by omega)
    have hs1 := same_snoc (krN (l.take j)) (one1 x).toNat k
    have hu1 := under_snoc (krN (l.take j)) (one1 x).toNat k
    rw [← krN_take hx] at hs1 hu1
    rw [hi1]
    refine Both.dec (fun g1 => ?_) (fun g1 => ?_) <;> simp (disch := (first | omega | (simp only [size_new, size_newm, size_wr, size_wrm] <;> omega) | fail)) only [go_sem, Nat.reduceBEq, Nat.reduceAdd, Nat.reduceMul, Nat.reduceLeDiff, ↓reduceIte, rd_new_lt, own_new_lt, mp_new_lt, rd_newm_lt, own_newm_lt, mp_newm_lt, rd_wr_ne, own_wr_ne, mp_wr_ne, rd_wrm_ne, own_wrm_ne, mp_wrm_ne, rd_new_eq, own_new_eq, mp_newm_eq]
    · rw [hi1, wrap64 (n := ((n + same (krN (l.take j)) k : Nat) : Int) + 1) (by omega) (by omega)]
      rw [if_pos (by omega)] at hs1
      rw [if_neg (by omega)] at hu1
      refine Both.dec (fun g2 => ?_) (fun g2 => ?_) <;> simp (disch := (first | omega | (simp only [size_new, size_newm, size_wr, size_wrm] <;> omega) | fail)) only [go_sem, Nat.reduceBEq, Nat.reduceAdd, Nat.reduceMul, Nat.reduceLeDiff, ↓reduceIte, rd_new_lt, own_new_lt, mp_new_lt, rd_newm_lt, own_newm_lt, mp_newm_lt, rd_wr_ne, own_wr_ne, mp_wr_ne, rd_wrm_ne, own_wrm_ne, mp_wrm_ne, rd_new_eq, own_new_eq, mp_newm_eq]
      · omega
      · rw [wrap64 (n := (j : Int) + 1) (by omega) (by omega)]
        exact ⟨l.length - (j + 1), by omega, trivial, j + 1, rfl, by omega, by rw [hs1, hu1, show ((n + (same (krN (l.take j)) k + 1) : Nat) : Int) = ((n + same (krN (l.take j)) k : Nat) : Int) + 1 by omega]; rfl⟩
    · rw [hi1]
      rw [if_neg (by omega), Nat.add_zero] at hs1
      refine Both.dec (fun g2 => ?_) (fun g2 => ?_) <;> simp (disch := (first | omega | (simp only [size_new, size_newm, size_wr, size_wrm] <;> omega) | fail)) only [go_sem, Nat.reduceBEq, Nat.reduceAdd, Nat.reduceMul, Nat.reduceLeDiff, ↓reduceIte, rd_new_lt, own_new_lt, mp_new_lt, rd_newm_lt, own_newm_lt, mp_newm_lt, rd_wr_ne, own_wr_ne, mp_wr_ne, rd_wrm_ne, own_wrm_ne, mp_wrm_ne, rd_new_eq, own_new_eq, mp_newm_eq]
      · rw [if_pos (by omega)] at hu1
        have hif : (if 1 > (if x > ((under (krN (l.take j)) k : Nat) : Int) then x else ((under (krN (l.take j)) k : Nat) : Int)) then (1 : Int) else if x > ((under (krN (l.take j)) k : Nat) : Int) then x else ((under (krN (l.take j)) k : Nat) : Int)) = ((max (under (krN (l.take j)) k) (one1 x).toNat : Nat) : Int) := by
          unfold one1
          split <;> split <;> omega
        rw [hif, wrap64 (n := (j : Int) + 1) (by omega) (by omega)]
        exact ⟨l.length - (j + 1), by omega, trivial, j + 1, rfl, by omega, by rw [hs1, hu1]; rfl⟩
      · rw [if_neg (by omega)] at hu1
        rw [wrap64 (n := (j : Int) + 1) (by omega) (by omega)]
        exact ⟨l.length - (j + 1), by omega, trivial, j + 1, rfl, by omega, by rw [hs1, hu1]; rfl⟩
  have hj2 : j = l.length := by omega
  subst hj2
  rw [List.take_length]
  have hst := above_step M (k - 1) (krN l)
  have hsl := above_len (k - 1) (krN l)
  rw [hk1] at hst hsl
  have hu2 := hu.more (same (krN l) k)
  rw [← hst] at hu2
  obtain ⟨hun, hug⟩ := under_lt (k := k) (by omega) (krN l)
  have hgap : above (krN l) (k - 1) = above (krN l) (under (krN l) k) := above_gap (by omega) fun y hy hh => by
    have := hug y hy (by omega)
    omega
  rw [hgap] at hu2 hsl
  have hal2 : (above (krN l) (under (krN l) k)).length ≤ l.length := by
    have := List.length_filter_le (fun y => decide (under (krN l) k < y)) (krN l)
    rw [krN_len] at this
    exact this
  have hn2 : n + same (krN l) k ≤ (above (krN l) (under (krN l) k)).length := by omega
  generalize n + same (krN l) k = n2 at *
  generalize under (krN l) k = nx at *
  refine LoopV.intro (fun m' env H' => H' = H3 ∧ ∃ (n at_ : Nat) (part : Bool), m' = at_ ∧ nx ≤ at_ ∧ at_ ≤ k ∧ KrUp M (kS M (above (krN l) nx)) at_ n part ∧ n ≤ (above (krN l) nx).length ∧
    env = [(0, .slice a l.length c), (3, i64 n), (4, .bool part), (5, i64 at_), (8, i64 nx)]) k ⟨rfl, n2, k, part, rfl, by omega, by omega, hu2, hn2, rfl⟩ ?_
  clear hu2 hn2 hu hn hst hsl hgap
  rintro m' env H4 ⟨rfl, n3, at_, part3, hm', hnx, hak, hu3, hn3, rfl⟩
  simp (disch := (first | omega | (simp only [size_new, size_newm, size_wr, size_wrm] <;> omega) | fail)) only [go_sem, Nat.reduceBEq, Nat.reduceAdd, Nat.reduceMul, Nat.reduceLeDiff, ↓reduceIte, rd_new_lt, own_new_lt, mp_new_lt, rd_newm_lt, own_newm_lt, mp_newm_lt, rd_wr_ne, own_wr_ne, mp_wr_ne, rd_wrm_ne, own_wrm_ne, mp_wrm_ne, rd_new_eq, own_new_eq, mp_newm_eq]
  refine Both.dec (fun g1 => ?_) (fun g1 => ?_) <;> simp (disch := (first | omega | (simp only [size_new, size_newm, size_wr, size_wrm] <;> omega) | fail)) only [go_sem, Nat.reduceBEq, Nat.reduceAdd, Nat.reduceMul, Nat.reduceLeDiff, ↓reduceIte, rd_new_lt, own_new_lt, mp_new_lt, rd_newm_lt, own_newm_lt, mp_newm_lt, rd_wr_ne, own_wr_ne, mp_wr_ne, rd_wrm_ne, own_wrm_ne, mp_wrm_ne, rd_new_eq, own_new_eq, mp_newm_eq]
  · refine Both.dec (fun g2 => ?_) (fun g2 => ?_) <;> simp (disch := (first | omega | (simp only [size_new, size_newm, size_wr, size_wrm] <;> omega) | fail)) only [go_sem, Nat.reduceBEq, Nat.reduceAdd, Nat.reduceMul, Nat.reduceLeDiff, ↓reduceIte, rd_new_lt, own_new_lt, mp_new_lt, rd_newm_lt, own_newm_lt, mp_newm_lt, rd_wr_ne, own_wr_ne, mp_wr_ne, rd_wrm_ne, own_wrm_ne, mp_wrm_ne, rd_new_eq, own_new_eq, mp_newm_eq]
    · have hh := hu3.half (by omega) (by omega)
      have e1 : ((n3 : Nat) : Int).tmod 2 = ((n3 % 2 : Nat) : Int) := rfl
      have e2 : ((n3 : Nat) : Int).tdiv 2 = ((n3 / 2 : Nat) : Int) := rfl
      have hat : ((at_ - 1 : Nat) : Int) = (at_ : Int) - 1 := by omega
      cases part3
      · simp (disch := (first | omega | (simp only [size_new, size_newm, size_wr, size_wrm] <;> omega) | fail)) only [go_sem, Nat.reduceBEq, Nat.reduceAdd, Nat.reduceMul, Nat.reduceLeDiff, ↓reduceIte, rd_new_lt, own_new_lt, mp_new_lt, rd_newm_lt, own_newm_lt, mp_newm_lt, rd_wr_ne, own_wr_ne, mp_wr_ne, rd_wrm_ne, own_wrm_ne, mp_wrm_ne, rd_new_eq, own_new_eq, mp_newm_eq, e1, e2]
        rw [if_neg (by decide)]
        simp (disch := (first | omega | (simp only [size_new, size_newm, size_wr, size_wrm] <;> omega) | fail)) only [go_sem, Nat.reduceBEq, Nat.reduceAdd, Nat.reduceMul, Nat.reduceLeDiff, ↓reduceIte, rd_new_lt, own_new_lt, mp_new_lt, rd_newm_lt, own_newm_lt, mp_newm_lt, rd_wr_ne, own_wr_ne, mp_wr_ne, rd_wrm_ne, own_wrm_ne, mp_wrm_ne, rd_new_eq, own_new_eq, mp_newm_eq, e1, e2]
        rw [if_neg (by decide), wrap64 (n := ((n3 / 2 : Nat) : Int)) (by omega) (by omega)]
        simp (disch := (first | omega | (simp only [size_new, size_newm, size_wr, size_wrm] <;> omega) | fail)) only [go_sem, Nat.reduceBEq, Nat.reduceAdd, Nat.reduceMul, Nat.reduceLeDiff, ↓reduceIte, rd_new_lt, own_new_lt, mp_new_lt, rd_newm_lt, own_newm_lt, mp_newm_lt, rd_wr_ne, own_wr_ne, mp_wr_ne, rd_wrm_ne, own_wrm_ne, mp_wrm_ne, rd_new_eq, own_new_eq, mp_newm_eq]
        rw [wrap64 (n := (at_ : Int) - 1) (by omega) (by omega)]
        have hb : decide (((n3 % 2 : Nat) : Int) = 1) = (false || n3 % 2 == 1) := by
          rw [Bool.false_or]
          rcases (show n3 % 2 = 0 ∨ n3 % 2 = 1 by omega) with h | h <;> rw [h] <;> rfl
        exact ⟨at_ - 1, by omega, trivial, n3 / 2, at_ - 1, _, rfl, by omega, by omega, hh, by omega, by rw [hb, hat]⟩
      · simp (disch := (first | omega | (simp only [size_new, size_newm, size_wr, size_wrm] <;> omega) | fail)) only [go_sem, Nat.reduceBEq, Nat.reduceAdd, Nat.reduceMul, Nat.reduceLeDiff, ↓reduceIte, rd_new_lt, own_new_lt, mp_new_lt, rd_newm_lt, own_newm_lt, mp_newm_lt, rd_wr_ne, own_wr_ne, mp_wr_ne, rd_wrm_ne, own_wrm_ne, mp_wrm_ne, rd_new_eq, own_new_eq, mp_newm_eq, e1, e2]
        rw [if_neg (by decide), wrap64 (n := ((n3 / 2 : Nat) : Int)) (by omega) (by omega)]
        simp (disch := (first | omega | (simp only [size_new, size_newm, size_wr, size_wrm] <;> omega) | fail)) only [go_sem, Nat.reduceBEq, Nat.reduceAdd, Nat.reduceMul, Nat.reduceLeDiff, ↓reduceIte, rd_new_lt, own_new_lt, mp_new_lt, rd_newm_lt, own_newm_lt, mp_newm_lt, rd_wr_ne, own_wr_ne, mp_wr_ne, rd_wrm_ne, own_wrm_ne, mp_wrm_ne, rd_new_eq, own_new_eq, mp_newm_eq]
        rw [wrap64 (n := (at_ : Int) - 1) (by omega) (by omega)]
        exact ⟨at_ - 1, by omega, trivial, n3 / 2, at_ - 1, _, rfl, by omega, by omega, hh, by omega, by rw [hat]; rfl⟩
    · have h0 : n3 = 0 := by omega
      subst h0
      exact ⟨nx, by omega, trivial, 0, nx, part3, rfl, by omega, hu3.down hnx, by omega, rfl⟩
  · have h0 : at_ = nx := by omega
    subst h0
    exact ⟨at_, by omega, trivial, n3, at_, part3, rfl, by omega, hu3, hn3, rfl⟩

end Go.Proofs.Ytbnaicgmnadkgaa

/-
  Which lengths are right: the document's way.
-/
set_option linter.unusedVariables false
set_option linter.unusedSimpArgs false
namespace Go.Proofs.Ytbnaicgmnadkgaa
open Go Go.Vc

/-- Lengths that can be. -/
structure RightC (l : List Int) : Prop where
  low : ∀ x ∈ l, 1 ≤ x ∧ x ≤ 128
  len : 1 ≤ l.length ∧ l.length ≤ 4096
  room : krS 128 (krN l) ≤ 0

theorem krN_128 {l : List Int} (h : ∀ x ∈ l, 1 ≤ x ∧ x ≤ 128) : ∀ n ∈ krN l, n ≤ 128 := fun n hn => by
  obtain ⟨x, hx, rfl⟩ := List.mem_map.1 hn
  have := h x hx
  unfold one1
  omega

set_option maxRecDepth 100000 in
set_option maxHeartbeats 2000000 in
theorem ref27_Right_spec {H : Hp} {a : Option Addr} {c : Nat} {l : List Int} (h : RdS H 1 (.slice a l.length c) l.length (l.map i64)) (hl : l.length ≤ 9223372036854775807) :
    CallH Try.prog n_ref27_Right [.slice a l.length c] H fun v H' => Post (Fresh H H' ∧ ∃ b, v = .bool b ∧ (b = true ↔ RightC l)) := by
  refine c_ref27_Right ⟨rfl, ?_⟩
  simp (disch := (first | omega | (simp only [size_new, size_newm, size_wr, size_wrm] <;> omega) | fail)) only [go_sem, Nat.reduceBEq, Nat.reduceAdd, Nat.reduceMul, Nat.reduceLeDiff, ↓reduceIte, rd_new_lt, own_new_lt, mp_new_lt, rd_newm_lt, own_newm_lt, mp_newm_lt, rd_wr_ne, own_wr_ne, mp_wr_ne, rd_wrm_ne, own_wrm_ne, mp_wrm_ne, rd_new_eq, own_new_eq, mp_newm_eq, s_ref27_Right]
  refine LoopV.intro (fun m env H' => H' = H ∧ ∃ j : Nat, m = l.length - j ∧ j ≤ l.length ∧ (∀ x ∈ l.take j, 1 ≤ x ∧ x ≤ 128) ∧
    env = [(0, .slice a l.length c), (5, .slice a l.length c), (6, i64 l.length), (7, i64 j)]) l.length ⟨rfl, 0, by omega, by omega, by simp, rfl⟩ ?_
  rintro m env H1 ⟨rfl, j, hm, hj, hall, rfl⟩
  simp (disch := (first | omega | (simp only [size_new, size_newm, size_wr, size_wrm] <;> omega) | fail)) only [go_sem, Nat.reduceBEq, Nat.reduceAdd, Nat.reduceMul, Nat.reduceLeDiff, ↓reduceIte, rd_new_lt, own_new_lt, mp_new_lt, rd_newm_lt, own_newm_lt, mp_newm_lt, rd_wr_ne, own_wr_ne, mp_wr_ne, rd_wrm_ne, own_wrm_ne, mp_wrm_ne, rd_new_eq, own_new_eq, mp_newm_eq]
  refine Both.dec (fun hlt => ?_) (fun hlt => ?_) <;> simp (disch := (first | omega | (simp only [size_new, size_newm, size_wr, size_wrm] <;> omega) | fail)) only [go_sem, Nat.reduceBEq, Nat.reduceAdd, Nat.reduceMul, Nat.reduceLeDiff, ↓reduceIte, rd_new_lt, own_new_lt, mp_new_lt, rd_newm_lt, own_newm_lt, mp_newm_lt, rd_wr_ne, own_wr_ne, mp_wr_ne, rd_wrm_ne, own_wrm_ne, mp_wrm_ne, rd_new_eq, own_new_eq, mp_newm_eq]
  · obtain ⟨x, hx⟩ : ∃ x, l[j]? = some x := ⟨_, List.getElem?_eq_getElem (by omega)⟩
    have hmem := List.mem_of_getElem? hx
    obtain ⟨_, b, o, lb, rfl, hrd, hcell⟩ := RdS.num h hx
    refine ⟨⟨by omega, by omega⟩, ?_⟩
    simp (disch := (first | omega | (simp only [size_new, size_newm, size_wr, size_wrm] <;> omega) | fail)) only [go_sem, Nat.reduceBEq, Nat.reduceAdd, Nat.reduceMul, Nat.reduceLeDiff, ↓reduceIte, rd_new_lt, own_new_lt, mp_new_lt, rd_newm_lt, own_newm_lt, mp_newm_lt, rd_wr_ne, own_wr_ne, mp_wr_ne, rd_wrm_ne, own_wrm_ne, mp_wrm_ne, rd_new_eq, own_new_eq, mp_newm_eq, hrd, Int.toNat_natCast, Nat.mul_one, hcell]
    refine Both.dec (fun g1 => ?_) (fun g1 => ?_) <;> simp (disch := (first | omega | (simp only [size_new, size_newm, size_wr, size_wrm] <;> omega) | fail)) only [go_sem, Nat.reduceBEq, Nat.reduceAdd, Nat.reduceMul, Nat.reduceLeDiff, ↓reduceIte, rd_new_lt, own_new_lt, mp_new_lt, rd_newm_lt, own_newm_lt, mp_newm_lt, rd_wr_ne, own_wr_ne, mp_wr_ne, rd_wrm_ne, own_wrm_ne, mp_wrm_ne, rd_new_eq, own_new_eq, mp_newm_eq]
    · exact ⟨Ext.refl _ _, false, rfl, iff_of_false (by simp) fun hs => by have := hs.low x hmem; omega⟩
    refine Both.dec (fun g2 => ?_) (fun g2 => ?_) <;> simp (disch := (first | omega | (simp only [size_new, size_newm, size_wr, size_wrm] <;> omega) | fail)) only [go_sem, Nat.reduceBEq, Nat.reduceAdd, Nat.reduceMul, Nat.reduceLeDiff, ↓reduceIte, rd_new_lt, own_new_lt, mp_new_lt, rd_newm_lt, own_newm_lt, mp_newm_lt, rd_wr_ne, own_wr_ne, mp_wr_ne, rd_wrm_ne, own_wrm_ne, mp_wrm_ne, rd_new_eq, own_new_eq, mp_newm_eq]
    · exact ⟨Ext.refl _ _, false, rfl, iff_of_false (by simp) fun hs => by have := hs.low x hmem; omega⟩
    rw [wrap64 (n := (j : Int) + 1) (by omega) (by omega)]
    refine ⟨l.length - (j + 1), by omega, trivial, j + 1, rfl, by omega, fun y hy => ?_, rfl⟩
    rw [List.take_add_one, hx] at hy
    rcases List.mem_append.1 hy with hy | hy
    · exact hall y hy
    · have : y = x := by simpa using hy
      subst this
      omega
  have hj2 : j = l.length := by omega
  subst hj2
  rw [List.take_length] at hall
  refine Both.dec (fun g1 => ?_) (fun g1 => ?_) <;> simp (disch := (first | omega | (simp only [size_new, size_newm, size_wr, size_wrm] <;> omega) | fail)) only [go_sem, Nat.reduceBEq, Nat.reduceAdd, Nat.reduceMul, Nat.reduceLeDiff, ↓reduceIte, rd_new_lt, own_new_lt, mp_new_lt, rd_newm_lt, own_newm_lt, mp_newm_lt, rd_wr_ne, own_wr_ne, mp_wr_ne, rd_wrm_ne, own_wrm_ne, mp_wrm_ne, rd_new_eq, own_new_eq, mp_newm_eq]
  rotate_left
  · exact ⟨Ext.refl _ _, false, rfl, iff_of_false (by simp) fun hs => by have := hs.len; omega⟩
  refine Both.dec (fun g2 => ?_) (fun g2 => ?_) <;> simp (disch := (first | omega | (simp only [size_new, size_newm, size_wr, size_wrm] <;> omega) | fail)) only [go_sem, Nat.reduceBEq, Nat.reduceAdd, Nat.reduceMul, Nat.reduceLeDiff, ↓reduceIte, rd_new_lt, own_new_lt, mp_new_lt, rd_newm_lt, own_newm_lt, mp_newm_lt, rd_wr_ne, own_wr_ne, mp_wr_ne, rd_wrm_ne, own_wrm_ne, mp_wrm_ne, rd_new_eq, own_new_eq, mp_newm_eq]
  rotate_left
  · exact ⟨Ext.refl _ _, false, rfl, iff_of_false (by simp) fun hs => by have := hs.len; omega⟩
  refine (ref26_Kraft_spec h (by omega) (krN_128 hall) (by decide)).mono ?_
  rintro _ H2 ⟨rfl, f2⟩
  simp (disch := (first | omega | (simp only [size_new, size_newm, size_wr, size_wrm] <;> omega) | fail)) only [go_sem, Nat.reduceBEq, Nat.reduceAdd, Nat.reduceMul, Nat.reduceLeDiff, ↓reduceIte, rd_new_lt, own_new_lt, mp_new_lt, rd_newm_lt, own_newm_lt, mp_newm_lt, rd_wr_ne, own_wr_ne, mp_wr_ne, rd_wrm_ne, own_wrm_ne, mp_wrm_ne, rd_new_eq, own_new_eq, mp_newm_eq]
  exact ⟨f2, _, rfl, by rw [decide_eq_true_eq]; exact ⟨fun hk => ⟨hall, by omega, hk⟩, fun hs => hs.room⟩⟩

end Go.Proofs.Ytbnaicgmnadkgaa

/-
  The package code: bits as bytes: the program's way.
-/
set_option linter.unusedVariables false
set_option linter.unusedSimpArgs false
namespace Go.Proofs.Ytbnaicgmnadkgaa
open Go Go.Vc

theorem or_bit (v : Nat) (b : Bool) (hv : v < 128) : IntKind.u8.wrap ((BitVec.ofInt 8 (IntKind.u8.wrap ((v : Int) * 2)) ||| BitVec.ofInt 8 (IntKind.u8.wrap (((bt b).toNat : Int) - 48))).toNat : Int) = ((2 * v + b.toNat : Nat) : Int) := by
  have hb : IntKind.u8.wrap (((bt b).toNat : Int) - 48) = ((b.toNat : Nat) : Int) := by cases b <;> decide
  rw [hb, wrapU8 (n := (v : Int) * 2) (by omega) (by omega)]
  have h1 : BitVec.ofInt 8 ((v : Int) * 2) = BitVec.ofNat 8 (2 * v) := by rw [← BitVec.ofInt_natCast]; congr 1; omega
  have h2 : BitVec.ofInt 8 ((b.toNat : Nat) : Int) = BitVec.ofNat 8 b.toNat := BitVec.ofInt_natCast ..
  have hb1 : b.toNat ≤ 1 := by cases b <;> decide
  rw [h1, h2, BitVec.toNat_or, BitVec.toNat_ofNat, BitVec.toNat_ofNat, Nat.mod_eq_of_lt (by omega), Nat.mod_eq_of_lt (by omega)]
  have h3 : 2 * v ||| b.toNat = 2 * v + b.toNat := by
    have := Nat.two_pow_add_eq_or_of_lt (i := 1) (b := b.toNat) (by omega) v
    rw [Nat.pow_one] at this
    rw [this]
  rw [h3]
  exact wrapU8 (by omega) (by omega)

set_option maxRecDepth 100000 in
set_option maxHeartbeats 4000000 in
theorem code_Pack_spec {H : Hp} {bits : List UInt8} (hl : bits.length ≤ 1000000000) :
    CallH Try.prog n_code_Pack [strV bits] H fun v H' => Post (Fresh H H' ∧ PackR bits H' v) := by
  refine c_code_Pack ⟨rfl, ?_⟩
  simp (disch := (first | omega | (simp only [size_new, size_newm, size_wr, size_wrm] <;> omega) | fail)) only [go_sem, Nat.reduceBEq, Nat.reduceAdd, Nat.reduceMul, Nat.reduceLeDiff, ↓reduceIte, rd_new_lt, own_new_lt, mp_new_lt, rd_newm_lt, own_newm_lt, mp_newm_lt, rd_wr_ne, own_wr_ne, mp_wr_ne, rd_wrm_ne, own_wrm_ne, mp_wrm_ne, rd_new_eq, own_new_eq, mp_newm_eq, s_code_Pack]
  refine (code_right_spec H hl).mono ?_
  rintro _ H1 ⟨rfl, f1⟩
  simp (disch := (first | omega | (simp only [size_new, size_newm, size_wr, size_wrm] <;> omega) | fail)) only [go_sem, Nat.reduceBEq, Nat.reduceAdd, Nat.reduceMul, Nat.reduceLeDiff, ↓reduceIte, rd_new_lt, own_new_lt, mp_new_lt, rd_newm_lt, own_newm_lt, mp_newm_lt, rd_wr_ne, own_wr_ne, mp_wr_ne, rd_wrm_ne, own_wrm_ne, mp_wrm_ne, rd_new_eq, own_new_eq, mp_newm_eq]
  by_cases hb : bits.all isBit = true ∧ bits.length ≤ 1048576
  rotate_left
  · have e : (decide (bits.length ≤ 1048576) && bits.all isBit) = false := by
      rw [← Bool.not_eq_true, Bool.and_eq_true, decide_eq_true_eq]
      exact fun h => hb ⟨h.2, h.1⟩
    refine Both.of_false e ?_
    simp (disch := (first | omega | (simp only [size_new, size_newm, size_wr, size_wrm] <;> omega) | fail)) only [go_sem, Nat.reduceBEq, Nat.reduceAdd, Nat.reduceMul, Nat.reduceLeDiff, ↓reduceIte, rd_new_lt, own_new_lt, mp_new_lt, rd_newm_lt, own_newm_lt, mp_newm_lt, rd_wr_ne, own_wr_ne, mp_wr_ne, rd_wrm_ne, own_wrm_ne, mp_wrm_ne, rd_new_eq, own_new_eq, mp_newm_eq]
    exact ⟨f1, .inl ⟨hb, rfl⟩⟩
  have e : (decide (bits.length ≤ 1048576) && bits.all isBit) = true := by
    rw [Bool.and_eq_true, decide_eq_true_eq]
    exact ⟨hb.2, hb.1⟩
  refine Both.of_true e ?_
  obtain ⟨hb1, hb2⟩ := hb
  obtain ⟨w, rfl⟩ := bits_of hb1
  rw [List.length_map] at hb2
  have er : ((w.length : Nat) : Int).tmod 8 = ((w.length % 8 : Nat) : Int) := rfl
  have er2 : ((8 - w.length % 8 : Nat) : Int).tmod 8 = ((moreN w.length : Nat) : Int) := rfl
  have esz : (⟨(w.map bt).toArray⟩ : ByteArray).size = w.length := by rw [size_str, List.length_map]
  simp (disch := (first | omega | (simp only [size_new, size_newm, size_wr, size_wrm] <;> omega) | fail)) only [go_sem, Nat.reduceBEq, Nat.reduceAdd, Nat.reduceMul, Nat.reduceLeDiff, ↓reduceIte, rd_new_lt, own_new_lt, mp_new_lt, rd_newm_lt, own_newm_lt, mp_newm_lt, rd_wr_ne, own_wr_ne, mp_wr_ne, rd_wrm_ne, own_wrm_ne, mp_wrm_ne, rd_new_eq, own_new_eq, mp_newm_eq, esz, List.size_toArray, List.length_map, er]
  rw [if_neg (by decide)]
  simp (disch := (first | omega | (simp only [size_new, size_newm, size_wr, size_wrm] <;> omega) | fail)) only [go_sem, Nat.reduceBEq, Nat.reduceAdd, Nat.reduceMul, Nat.reduceLeDiff, ↓reduceIte, rd_new_lt, own_new_lt, mp_new_lt, rd_newm_lt, own_newm_lt, mp_newm_lt, rd_wr_ne, own_wr_ne, mp_wr_ne, rd_wrm_ne, own_wrm_ne, mp_wrm_ne, rd_new_eq, own_new_eq, mp_newm_eq]
  rw [wrap64 (n := (8 : Int) - ((w.length % 8 : Nat) : Int)) (by omega) (by omega), show (8 : Int) - ((w.length % 8 : Nat) : Int) = ((8 - w.length % 8 : Nat) : Int) by omega]
  simp (disch := (first | omega | (simp only [size_new, size_newm, size_wr, size_wrm] <;> omega) | fail)) only [go_sem, Nat.reduceBEq, Nat.reduceAdd, Nat.reduceMul, Nat.reduceLeDiff, ↓reduceIte, rd_new_lt, own_new_lt, mp_new_lt, rd_newm_lt, own_newm_lt, mp_newm_lt, rd_wr_ne, own_wr_ne, mp_wr_ne, rd_wrm_ne, own_wrm_ne, mp_wrm_ne, rd_new_eq, own_new_eq, mp_newm_eq, er2]
  rw [if_neg (by decide)]
  simp (disch := (first | omega | (simp only [size_new, size_newm, size_wr, size_wrm] <;> omega) | fail)) only [go_sem, Nat.reduceBEq, Nat.reduceAdd, Nat.reduceMul, Nat.reduceLeDiff, ↓reduceIte, rd_new_lt, own_new_lt, mp_new_lt, rd_newm_lt, own_newm_lt, mp_newm_lt, rd_wr_ne, own_wr_ne, mp_wr_ne, rd_wrm_ne, own_wrm_ne, mp_wrm_ne, rd_new_eq, own_new_eq, mp_newm_eq]
  have hmn : moreN w.length < 8 := by unfold moreN; omega
  rw [wrapU8 (n := ((moreN w.length : Nat) : Int)) (by omega) (by omega)]
  have f2 : Fresh H1 (H1.new 5 [.int .u8 ((moreN w.length : Nat) : Int)]) := (Ext.refl _ _).new _ _
  have s2 : Sl (H1.new 5 [.int .u8 ((moreN w.length : Nat) : Int)]) 1 (.slice (some ⟨H1.size, 0, none⟩) 1 1) 1 (u8s [moreN w.length]) (some H1.size) := Sl.lit_at (size := 1) (n := 1) (xs := u8s [moreN w.length]) rfl rfl
  generalize H1.new 5 [.int .u8 ((moreN w.length : Nat) : Int)] = H2 at *
  refine (Repeat_spec H2 [48] (moreN w.length) (by simp) (by omega)).mono ?_
  rintro _ H3 ⟨rfl, f3⟩
  simp (disch := (first | omega | (simp only [size_new, size_newm, size_wr, size_wrm] <;> omega) | fail)) only [go_sem, Nat.reduceBEq, Nat.reduceAdd, Nat.reduceMul, Nat.reduceLeDiff, ↓reduceIte, rd_new_lt, own_new_lt, mp_new_lt, rd_newm_lt, own_newm_lt, mp_newm_lt, rd_wr_ne, own_wr_ne, mp_wr_ne, rd_wrm_ne, own_wrm_ne, mp_wrm_ne, rd_new_eq, own_new_eq, mp_newm_eq]
  rw [repeat_one, cat_big _ _ (by simp; omega)]
  simp (disch := (first | omega | (simp only [size_new, size_newm, size_wr, size_wrm] <;> omega) | fail)) only [go_sem, Nat.reduceBEq, Nat.reduceAdd, Nat.reduceMul, Nat.reduceLeDiff, ↓reduceIte, rd_new_lt, own_new_lt, mp_new_lt, rd_newm_lt, own_newm_lt, mp_newm_lt, rd_wr_ne, own_wr_ne, mp_wr_ne, rd_wrm_ne, own_wrm_ne, mp_wrm_ne, rd_new_eq, own_new_eq, mp_newm_eq]
  have efull : w.map bt ++ List.replicate (moreN w.length) 48 = (fullB w).map bt := by
    unfold fullB
    rw [List.map_append, List.map_replicate]
    rfl
  rw [efull]
  have s3 := s2.ext f3 (fun _ _ h => h)
  have f13 := (f1.trans f2).trans f3
  have z1 := f1.size
  have hfm := fullB_mod w
  have hbl := bytesOf_len (fullB w)
  refine LoopV.intro (fun m env H' => ∃ (j : Nat) (wv : Value) (b : Nat), m = (w.length + 7) / 8 - j ∧ j ≤ (w.length + 7) / 8 ∧ Fresh H H' ∧ H.size ≤ b ∧ Sl H' 1 wv (moreN w.length :: (bytesOf (fullB w)).take j).length (u8s (moreN w.length :: (bytesOf (fullB w)).take j)) (some b) ∧
    env = [(0, strB ((fullB w).drop (8 * j))), (5, wv)]) _ ⟨0, _, _, rfl, by omega, f13, z1, by rw [List.take_zero]; exact s3, by rw [Nat.mul_zero, List.drop_zero]⟩ ?_
  clear s3 s2 f2 f3 f13
  rintro m env H4 ⟨j, wv, b, hm, hj, f4, hbb, s4, rfl⟩
  have z4 := f4.size
  simp (disch := (first | omega | (simp only [size_new, size_newm, size_wr, size_wrm] <;> omega) | fail)) only [go_sem, Nat.reduceBEq, Nat.reduceAdd, Nat.reduceMul, Nat.reduceLeDiff, ↓reduceIte, rd_new_lt, own_new_lt, mp_new_lt, rd_newm_lt, own_newm_lt, mp_newm_lt, rd_wr_ne, own_wr_ne, mp_wr_ne, rd_wrm_ne, own_wrm_ne, mp_wrm_ne, rd_new_eq, own_new_eq, mp_newm_eq]
  rw [eq_none]
  refine Both.dec (fun hz => ?_) (fun hz => ?_) <;> simp (disch := (first | omega | (simp only [size_new, size_newm, size_wr, size_wrm] <;> omega) | fail)) only [go_sem, Nat.reduceBEq, Nat.reduceAdd, Nat.reduceMul, Nat.reduceLeDiff, ↓reduceIte, rd_new_lt, own_new_lt, mp_new_lt, rd_newm_lt, own_newm_lt, mp_newm_lt, rd_wr_ne, own_wr_ne, mp_wr_ne, rd_wrm_ne, own_wrm_ne, mp_wrm_ne, rd_new_eq, own_new_eq, mp_newm_eq]
  · have hz1 : (fullB w).drop (8 * j) = [] := by simpa using hz
    have hlz := congrArg List.length hz1
    rw [List.length_drop, List.length_nil] at hlz
    have e1 : moreN w.length :: (bytesOf (fullB w)).take j = packL w := by
      unfold packL
      rw [List.take_of_length_le (by omega)]
    rw [e1] at s4
    obtain ⟨lb, c, rfl, _⟩ := Sl.byte s4
    exact ⟨f4, .inr ⟨w, _, c, rfl, hb2, rfl, s4.rd⟩⟩
  have hz1 : (fullB w).drop (8 * j) ≠ [] := by simpa using hz
  have hlz := List.length_pos_iff.2 hz1
  rw [List.length_drop] at hlz
  have hj2 : j < (w.length + 7) / 8 := by omega
  refine LoopV.intro (fun m env H' => H' = H4 ∧ ∃ k : Nat, m = 8 - k ∧ k ≤ 8 ∧
    env = [(0, strB ((fullB w).drop (8 * j))), (5, wv), (6, .int .u8 (valB (((fullB w).drop (8 * j)).take k) : Nat)), (27, i64 k)]) _ ⟨rfl, 0, rfl, by omega, rfl⟩ ?_
  rintro m env H5 ⟨rfl, k, hm5, hk, rfl⟩
  have hv := valB_take_lt (fullB w) (8 * j) k hk
  simp (disch := (first | omega | (simp only [size_new, size_newm, size_wr, size_wrm] <;> omega) | fail)) only [go_sem, Nat.reduceBEq, Nat.reduceAdd, Nat.reduceMul, Nat.reduceLeDiff, ↓reduceIte, rd_new_lt, own_new_lt, mp_new_lt, rd_newm_lt, own_newm_lt, mp_newm_lt, rd_wr_ne, own_wr_ne, mp_wr_ne, rd_wrm_ne, own_wrm_ne, mp_wrm_ne, rd_new_eq, own_new_eq, mp_newm_eq]
  refine Both.dec (fun hlt => ?_) (fun hlt => ?_) <;> simp (disch := (first | omega | (simp only [size_new, size_newm, size_wr, size_wrm] <;> omega) | fail)) only [go_sem, Nat.reduceBEq, Nat.reduceAdd, Nat.reduceMul, Nat.reduceLeDiff, ↓reduceIte, rd_new_lt, own_new_lt, mp_new_lt, rd_newm_lt, own_newm_lt, mp_newm_lt, rd_wr_ne, own_wr_ne, mp_wr_ne, rd_wrm_ne, own_wrm_ne, mp_wrm_ne, rd_new_eq, own_new_eq, mp_newm_eq]
  rotate_left
  · have hk8 : k = 8 := by omega
    subst hk8
    refine pushB (B := H.size) hbb z4 s4 _ (by simp; omega) fun w' H' b' hb' s' e' => ?_
    simp (disch := (first | omega | (simp only [size_new, size_newm, size_wr, size_wrm] <;> omega) | fail)) only [go_sem, Nat.reduceBEq, Nat.reduceAdd, Nat.reduceMul, Nat.reduceLeDiff, ↓reduceIte, rd_new_lt, own_new_lt, mp_new_lt, rd_newm_lt, own_newm_lt, mp_newm_lt, rd_wr_ne, own_wr_ne, mp_wr_ne, rd_wrm_ne, own_wrm_ne, mp_wrm_ne, rd_new_eq, own_new_eq, mp_newm_eq]
    have esz2 : (((fullB w).drop (8 * j)).map bt).toArray.size = (fullB w).length - 8 * j := by rw [List.size_toArray, List.length_map, List.length_drop]
    rw [esz2]
    refine ⟨⟨by omega, by omega, by omega⟩, ?_⟩
    simp (disch := (first | omega | (simp only [size_new, size_newm, size_wr, size_wrm] <;> omega) | fail)) only [go_sem, Nat.reduceBEq, Nat.reduceAdd, Nat.reduceMul, Nat.reduceLeDiff, ↓reduceIte, rd_new_lt, own_new_lt, mp_new_lt, rd_newm_lt, own_newm_lt, mp_newm_lt, rd_wr_ne, own_wr_ne, mp_wr_ne, rd_wrm_ne, own_wrm_ne, mp_wrm_ne, rd_new_eq, own_new_eq, mp_newm_eq]
    refine ⟨(w.length + 7) / 8 - (j + 1), by omega, j + 1, w', b', rfl, by omega, f4.then e' (fun z hz => hz), hb', ?_, ?_⟩
    · have e1 : moreN w.length :: (bytesOf (fullB w)).take (j + 1) = (moreN w.length :: (bytesOf (fullB w)).take j) ++ [valB (((fullB w).drop (8 * j)).take 8)] := by
        rw [List.take_add_one, bytesOf_at (by omega), List.cons_append]
        rfl
      rw [← e1] at s'
      exact s'
    · rw [ext_str]
      have e1 : (((((fullB w).drop (8 * j)).map bt).take (((fullB w).length - 8 * j : Nat) : Int).toNat).drop (8 : Int).toNat) = ((fullB w).drop (8 * (j + 1))).map bt := by
        rw [List.take_of_length_le (by rw [List.length_map, List.length_drop]; omega), ← List.map_drop, List.drop_drop]
        rfl
      rw [e1]
  obtain ⟨x, hx⟩ : ∃ x, (fullB w)[8 * j + k]? = some x := ⟨_, List.getElem?_eq_getElem (by omega)⟩
  have hgx : (⟨(((fullB w).drop (8 * j)).map bt).toArray⟩ : ByteArray)[k]? = some (bt x) := by rw [get_str, List.getElem?_map, List.getElem?_drop, hx]; rfl
  have hvt := valB_take hx
  refine ⟨by omega, ?_⟩
  simp (disch := (first | omega | (simp only [size_new, size_newm, size_wr, size_wrm] <;> omega) | fail)) only [go_sem, Nat.reduceBEq, Nat.reduceAdd, Nat.reduceMul, Nat.reduceLeDiff, ↓reduceIte, rd_new_lt, own_new_lt, mp_new_lt, rd_newm_lt, own_newm_lt, mp_newm_lt, rd_wr_ne, own_wr_ne, mp_wr_ne, rd_wrm_ne, own_wrm_ne, mp_wrm_ne, rd_new_eq, own_new_eq, mp_newm_eq, Int.toNat_natCast, hgx]
  have hv7 : valB (((fullB w).drop (8 * j)).take k) < 128 := by
    have h1 := valB_lt (((fullB w).drop (8 * j)).take k)
    have h2 : 2 ^ (((fullB w).drop (8 * j)).take k).length ≤ 2 ^ 7 := Nat.pow_le_pow_right (by decide) (by rw [List.length_take]; omega)
    omega
  have ob := or_bit (valB (((fullB w).drop (8 * j)).take k)) x hv7
  rw [show ((2 : Int) ^ min (Int.toNat 1) 8) = 2 from rfl, wrap64 (n := (k : Int) + 1) (by omega) (by omega)]
  refine ⟨8 - (k + 1), by omega, trivial, k + 1, rfl, by omega, ?_⟩
  rw [hvt]
  exact congrArg (fun z => [(0, strB ((fullB w).drop (8 * j))), (5, wv), (6, Value.int .u8 z), (27, i64 ((k : Int) + 1))]) ob

end Go.Proofs.Ytbnaicgmnadkgaa

/-
  The package code: bytes as bits: the program's way.
-/
set_option linter.unusedVariables false
set_option linter.unusedSimpArgs false
namespace Go.Proofs.Ytbnaicgmnadkgaa
open Go Go.Vc

def btN (b : Bool) : Nat := (bt b).toNat

theorem and_bit {x i : Nat} (hx : x < 256) (hi : i < 8) : IntKind.u8.wrap (48 + IntKind.u8.wrap ((BitVec.ofInt 8 (Int.fdiv (x : Int) (2 ^ min (7 - (i : Int)).toNat 8)) &&& BitVec.ofInt 8 1).toNat : Int)) = ((btN (decide (x / 2 ^ (7 - i) % 2 = 1)) : Nat) : Int) := by
  have e1 : min (7 - (i : Int)).toNat 8 = 7 - i := by omega
  have e2 : Int.fdiv (x : Int) (2 ^ (7 - i)) = ((x / 2 ^ (7 - i) : Nat) : Int) := by
    rw [Int.fdiv_eq_ediv_of_nonneg _ (by exact Int.le_of_lt (Int.pow_pos (by decide)))]
    rw [show ((2 : Int) ^ (7 - i)) = ((2 ^ (7 - i) : Nat) : Int) by rw [Int.natCast_pow]; rfl]
    rfl
  rw [e1, e2]
  have hy : x / 2 ^ (7 - i) < 256 := Nat.lt_of_le_of_lt (Nat.div_le_self ..) hx
  generalize x / 2 ^ (7 - i) = y at *
  have e3 : (BitVec.ofInt 8 ((y : Nat) : Int) &&& BitVec.ofInt 8 1).toNat = y % 2 := by
    rw [BitVec.toNat_and, BitVec.ofInt_natCast, BitVec.toNat_ofNat, Nat.mod_eq_of_lt (by omega)]
    exact Nat.and_one_is_mod y
  rw [e3, wrapU8 (n := ((y % 2 : Nat) : Int)) (by omega) (by omega), wrapU8 (by omega) (by omega)]
  unfold btN bt
  rcases Nat.mod_two_eq_zero_or_one y with h | h <;> rw [h] <;> rfl

theorem btN_map (w : List Bool) : (w.map btN).map UInt8.ofNat = w.map bt := by
  rw [List.map_map]
  apply List.map_congr_left
  intro b _
  cases b <;> rfl

set_option maxRecDepth 100000 in
set_option maxHeartbeats 4000000 in
theorem code_Unpack_spec {H : Hp} {a : Option Addr} {c : Nat} {ns : List Nat} (h : RdS H 1 (.slice a ns.length c) ns.length (u8s ns)) (hc : ns.length ≤ c) (hns : ∀ x ∈ ns, x < 256) (hl : ns.length ≤ 1000000000) :
    CallH Try.prog n_code_Unpack [.slice a ns.length c] H fun v H' => Post (UnpR ns v ∧ Fresh H H') := by
  refine c_code_Unpack ⟨rfl, ?_⟩
  simp (disch := (first | omega | (simp only [size_new, size_newm, size_wr, size_wrm] <;> omega) | fail)) only [go_sem, Nat.reduceBEq, Nat.reduceAdd, Nat.reduceMul, Nat.reduceLeDiff, ↓reduceIte, rd_new_lt, own_new_lt, mp_new_lt, rd_newm_lt, own_newm_lt, mp_newm_lt, rd_wr_ne, own_wr_ne, mp_wr_ne, rd_wrm_ne, own_wrm_ne, mp_wrm_ne, rd_new_eq, own_new_eq, mp_newm_eq, s_code_Unpack]
  refine Both.dec (fun g0 => ?_) (fun g0 => ?_) <;> simp (disch := (first | omega | (simp only [size_new, size_newm, size_wr, size_wrm] <;> omega) | fail)) only [go_sem, Nat.reduceBEq, Nat.reduceAdd, Nat.reduceMul, Nat.reduceLeDiff, ↓reduceIte, rd_new_lt, own_new_lt, mp_new_lt, rd_newm_lt, own_newm_lt, mp_newm_lt, rd_wr_ne, own_wr_ne, mp_wr_ne, rd_wrm_ne, own_wrm_ne, mp_wrm_ne, rd_new_eq, own_new_eq, mp_newm_eq]
  · refine ⟨.inr ⟨noUnp fun k b e => ?_, rfl⟩, Ext.refl _ _⟩
    rw [e] at g0
    simp only [List.length_cons] at g0
    omega
  obtain ⟨k, b, rfl⟩ : ∃ k b, ns = k :: b := by
    cases ns with
    | nil => simp at g0
    | cons k b => exact ⟨k, b, rfl⟩
  have hk := hns k (by simp)
  obtain ⟨_, bb, o, lb, rfl, hrd, hcell⟩ := RdS.byte h (i := 0) (x := k) rfl
  have hinj : ∀ {k' b'}, k :: b = k' :: b' → k' = k ∧ b' = b := fun e => by injection e with e1 e2; exact ⟨e1.symm, e2.symm⟩
  have e3 : (k :: b).length = b.length + 1 := rfl
  refine ⟨⟨by omega, by omega⟩, ?_⟩
  have hcell' : lb[o]? = some (.int .u8 (k : Int)) := hcell
  simp (disch := (first | omega | (simp only [size_new, size_newm, size_wr, size_wrm] <;> omega) | fail)) only [go_sem, Nat.reduceBEq, Nat.reduceAdd, Nat.reduceMul, Nat.reduceLeDiff, ↓reduceIte, rd_new_lt, own_new_lt, mp_new_lt, rd_newm_lt, own_newm_lt, mp_newm_lt, rd_wr_ne, own_wr_ne, mp_wr_ne, rd_wrm_ne, own_wrm_ne, mp_wrm_ne, rd_new_eq, own_new_eq, mp_newm_eq, hrd, Int.toNat_zero, Nat.zero_mul, Nat.add_zero, hcell']
  refine Both.dec (fun g1 => ?_) (fun g1 => ?_) <;> simp (disch := (first | omega | (simp only [size_new, size_newm, size_wr, size_wrm] <;> omega) | fail)) only [go_sem, Nat.reduceBEq, Nat.reduceAdd, Nat.reduceMul, Nat.reduceLeDiff, ↓reduceIte, rd_new_lt, own_new_lt, mp_new_lt, rd_newm_lt, own_newm_lt, mp_newm_lt, rd_wr_ne, own_wr_ne, mp_wr_ne, rd_wrm_ne, own_wrm_ne, mp_wrm_ne, rd_new_eq, own_new_eq, mp_newm_eq]
  · exact ⟨.inr ⟨noUnp fun k' b' e hu => by obtain ⟨rfl, rfl⟩ := hinj e; have := hu.low; omega, rfl⟩, Ext.refl _ _⟩
  refine Both.dec (fun g2 => ?A) (fun g2 => ?B)
  case' A =>
    simp (disch := (first | omega | (simp only [size_new, size_newm, size_wr, size_wrm] <;> omega) | fail)) only [go_sem, Nat.reduceBEq, Nat.reduceAdd, Nat.reduceMul, Nat.reduceLeDiff, ↓reduceIte, rd_new_lt, own_new_lt, mp_new_lt, rd_newm_lt, own_newm_lt, mp_newm_lt, rd_wr_ne, own_wr_ne, mp_wr_ne, rd_wrm_ne, own_wrm_ne, mp_wrm_ne, rd_new_eq, own_new_eq, mp_newm_eq]
    refine ⟨⟨by omega, by omega⟩, ?_⟩
    simp (disch := (first | omega | (simp only [size_new, size_newm, size_wr, size_wrm] <;> omega) | fail)) only [go_sem, Nat.reduceBEq, Nat.reduceAdd, Nat.reduceMul, Nat.reduceLeDiff, ↓reduceIte, rd_new_lt, own_new_lt, mp_new_lt, rd_newm_lt, own_newm_lt, mp_newm_lt, rd_wr_ne, own_wr_ne, mp_wr_ne, rd_wrm_ne, own_wrm_ne, mp_wrm_ne, rd_new_eq, own_new_eq, mp_newm_eq, hrd, Int.toNat_zero, Nat.zero_mul, Nat.add_zero, hcell']
    refine Both.dec (fun g3 => ?C) (fun g3 => ?D)
  case C =>
    simp (disch := (first | omega | (simp only [size_new, size_newm, size_wr, size_wrm] <;> omega) | fail)) only [go_sem, Nat.reduceBEq, Nat.reduceAdd, Nat.reduceMul, Nat.reduceLeDiff, ↓reduceIte, rd_new_lt, own_new_lt, mp_new_lt, rd_newm_lt, own_newm_lt, mp_newm_lt, rd_wr_ne, own_wr_ne, mp_wr_ne, rd_wrm_ne, own_wrm_ne, mp_wrm_ne, rd_new_eq, own_new_eq, mp_newm_eq]
    refine ⟨.inr ⟨noUnp fun k' b' e hu => ?_, rfl⟩, Ext.refl _ _⟩
    obtain ⟨rfl, rfl⟩ := hinj e
    rcases hu.some_ with h1 | h1
    · omega
    · have := List.length_pos_iff.2 h1; omega
  all_goals
    simp (disch := (first | omega | (simp only [size_new, size_newm, size_wr, size_wrm] <;> omega) | fail)) only [go_sem, Nat.reduceBEq, Nat.reduceAdd, Nat.reduceMul, Nat.reduceLeDiff, ↓reduceIte, rd_new_lt, own_new_lt, mp_new_lt, rd_newm_lt, own_newm_lt, mp_newm_lt, rd_wr_ne, own_wr_ne, mp_wr_ne, rd_wrm_ne, own_wrm_ne, mp_wrm_ne, rd_new_eq, own_new_eq, mp_newm_eq]
    rw [wrap64 (n := ((b.length + 1 : Nat) : Int) - 1) (by omega) (by omega)]
    refine Both.dec (fun g4 => ?_) (fun g4 => ?_) <;> simp (disch := (first | omega | (simp only [size_new, size_newm, size_wr, size_wrm] <;> omega) | fail)) only [go_sem, Nat.reduceBEq, Nat.reduceAdd, Nat.reduceMul, Nat.reduceLeDiff, ↓reduceIte, rd_new_lt, own_new_lt, mp_new_lt, rd_newm_lt, own_newm_lt, mp_newm_lt, rd_wr_ne, own_wr_ne, mp_wr_ne, rd_wrm_ne, own_wrm_ne, mp_wrm_ne, rd_new_eq, own_new_eq, mp_newm_eq]
    · exact ⟨.inr ⟨noUnp fun k' b' e hu => by obtain ⟨rfl, rfl⟩ := hinj e; have := hu.most; omega, rfl⟩, Ext.refl _ _⟩
    have hU : UnpG k b := ⟨by omega, (by first | exact .inl (by omega) | exact .inr (fun e => by subst e; simp at g2)), by omega⟩
    refine ⟨⟨by omega, by omega, by omega, by omega⟩, ?_⟩
    obtain ⟨a', c', hsv, hr', hc'⟩ := rd_tail h (by omega) hc
    have hr2 : RdS H 1 (.slice a' b.length c') b.length (u8s b) := hr'
    rw [show (k :: b).length - 1 = b.length from rfl, e3] at hsv
    simp (disch := (first | omega | (simp only [size_new, size_newm, size_wr, size_wrm] <;> omega) | fail)) only [go_sem, Nat.reduceBEq, Nat.reduceAdd, Nat.reduceMul, Nat.reduceLeDiff, ↓reduceIte, rd_new_lt, own_new_lt, mp_new_lt, rd_newm_lt, own_newm_lt, mp_newm_lt, rd_wr_ne, own_wr_ne, mp_wr_ne, rd_wrm_ne, own_wrm_ne, mp_wrm_ne, rd_new_eq, own_new_eq, mp_newm_eq]
    rw [hsv, show ((b.length + 1 : Nat) : Int).toNat - Int.toNat 1 = b.length by omega]
    have hmost := hU.most
    refine LoopV.intro (fun m env H' => ∃ (j : Nat) (wv : Value) (fp : Option Nat), m = b.length - j ∧ j ≤ b.length ∧ Fresh H H' ∧ (∀ z, fp = some z → H.size ≤ z) ∧ Sl H' 1 wv ((bitsAll (b.take j)).map btN).length (u8s ((bitsAll (b.take j)).map btN)) fp ∧
      env = [(0, .slice (some ⟨bb, o, none⟩) (b.length + 1) c), (4, wv), (38, .slice a' b.length c'), (39, i64 b.length), (40, i64 j)]) _ ⟨0, _, none, rfl, by omega, Ext.refl _ _, (fun z h => by cases h), by rw [List.take_zero]; exact Sl.nil _ _, rfl⟩ ?_
    rintro m env H1 ⟨j, wv, fp, rfl, hj, f1, hfp, s1, rfl⟩
    have hr1 := hr2.fresh f1
    simp (disch := (first | omega | (simp only [size_new, size_newm, size_wr, size_wrm] <;> omega) | fail)) only [go_sem, Nat.reduceBEq, Nat.reduceAdd, Nat.reduceMul, Nat.reduceLeDiff, ↓reduceIte, rd_new_lt, own_new_lt, mp_new_lt, rd_newm_lt, own_newm_lt, mp_newm_lt, rd_wr_ne, own_wr_ne, mp_wr_ne, rd_wrm_ne, own_wrm_ne, mp_wrm_ne, rd_new_eq, own_new_eq, mp_newm_eq]
    refine Both.dec (fun hlt => ?_) (fun hlt => ?_) <;> simp (disch := (first | omega | (simp only [size_new, size_newm, size_wr, size_wrm] <;> omega) | fail)) only [go_sem, Nat.reduceBEq, Nat.reduceAdd, Nat.reduceMul, Nat.reduceLeDiff, ↓reduceIte, rd_new_lt, own_new_lt, mp_new_lt, rd_newm_lt, own_newm_lt, mp_newm_lt, rd_wr_ne, own_wr_ne, mp_wr_ne, rd_wrm_ne, own_wrm_ne, mp_wrm_ne, rd_new_eq, own_new_eq, mp_newm_eq]
    · obtain ⟨x, hx⟩ : ∃ x, b[j]? = some x := ⟨_, List.getElem?_eq_getElem (by omega)⟩
      have hx2 := hns x (List.mem_cons_of_mem _ (List.mem_of_getElem? hx))
      obtain ⟨_, b2, o2, l2, rfl, hrd2, hcell2⟩ := RdS.byte hr1 hx
      refine ⟨⟨by omega, by omega⟩, ?_⟩
      simp (disch := (first | omega | (simp only [size_new, size_newm, size_wr, size_wrm] <;> omega) | fail)) only [go_sem, Nat.reduceBEq, Nat.reduceAdd, Nat.reduceMul, Nat.reduceLeDiff, ↓reduceIte, rd_new_lt, own_new_lt, mp_new_lt, rd_newm_lt, own_newm_lt, mp_newm_lt, rd_wr_ne, own_wr_ne, mp_wr_ne, rd_wrm_ne, own_wrm_ne, mp_wrm_ne, rd_new_eq, own_new_eq, mp_newm_eq, hrd2, Int.toNat_natCast, Nat.mul_one, hcell2]
      refine LoopV.intro (fun m env H' => ∃ (i : Nat) (wv : Value) (fp : Option Nat), m = 8 - i ∧ i ≤ 8 ∧ Fresh H H' ∧ (∀ z, fp = some z → H.size ≤ z) ∧ Sl H' 1 wv ((bitsAll (b.take j) ++ (bits8 x).take i).map btN).length (u8s ((bitsAll (b.take j) ++ (bits8 x).take i).map btN)) fp ∧
        env = [(0, .slice (some ⟨bb, o, none⟩) (b.length + 1) c), (4, wv), (6, .int .u8 (x : Int)), (7, i64 (7 - (i : Int))), (38, .slice (some ⟨b2, o2, none⟩) b.length c'), (39, i64 b.length), (40, i64 j)]) _ ⟨0, _, fp, rfl, by omega, f1, hfp, by rw [List.take_zero, List.append_nil]; exact s1, rfl⟩ ?_
      clear s1 f1 hfp
      rintro m env H2 ⟨i, wv, fp, rfl, hi, f2, hfp, s2, rfl⟩
      have hbl := bitsAll_len (b.take j)
      rw [List.length_take, Nat.min_eq_left (by omega)] at hbl
      simp (disch := (first | omega | (simp only [size_new, size_newm, size_wr, size_wrm] <;> omega) | fail)) only [go_sem, Nat.reduceBEq, Nat.reduceAdd, Nat.reduceMul, Nat.reduceLeDiff, ↓reduceIte, rd_new_lt, own_new_lt, mp_new_lt, rd_newm_lt, own_newm_lt, mp_newm_lt, rd_wr_ne, own_wr_ne, mp_wr_ne, rd_wrm_ne, own_wrm_ne, mp_wrm_ne, rd_new_eq, own_new_eq, mp_newm_eq]
      refine Both.dec (fun hlt2 => ?_) (fun hlt2 => ?_) <;> simp (disch := (first | omega | (simp only [size_new, size_newm, size_wr, size_wrm] <;> omega) | fail)) only [go_sem, Nat.reduceBEq, Nat.reduceAdd, Nat.reduceMul, Nat.reduceLeDiff, ↓reduceIte, rd_new_lt, own_new_lt, mp_new_lt, rd_newm_lt, own_newm_lt, mp_newm_lt, rd_wr_ne, own_wr_ne, mp_wr_ne, rd_wrm_ne, own_wrm_ne, mp_wrm_ne, rd_new_eq, own_new_eq, mp_newm_eq]
      · rw [if_neg (by omega)]
        simp (disch := (first | omega | (simp only [size_new, size_newm, size_wr, size_wrm] <;> omega) | fail)) only [go_sem, Nat.reduceBEq, Nat.reduceAdd, Nat.reduceMul, Nat.reduceLeDiff, ↓reduceIte, rd_new_lt, own_new_lt, mp_new_lt, rd_newm_lt, own_newm_lt, mp_newm_lt, rd_wr_ne, own_wr_ne, mp_wr_ne, rd_wrm_ne, own_wrm_ne, mp_wrm_ne, rd_new_eq, own_new_eq, mp_newm_eq]
        have e1 : bitsAll (b.take j) ++ (bits8 x).take (i + 1) = bitsAll (b.take j) ++ (bits8 x).take i ++ [decide (x / 2 ^ (7 - i) % 2 = 1)] := by
          rw [List.append_assoc, List.take_add_one, bits8_at x i (by omega)]
          rfl
        have hab := and_bit (x := x) (i := i) hx2 (by omega)
        refine Eq.mpr (congrArg (fun z => AppendV 5 1 1 [Value.int .u8 0] wv (.slice (some ⟨H2.size, 0, none⟩) 1 1) (H2.new 5 [.int .u8 z]) _) hab) ?_
        refine pushBO (B := H.size) hfp f2.size s2 _ (by rw [List.length_map, List.length_append, List.length_take, bits8_len]; omega) fun w' H' fp' hfp' s' e' => ?_
        simp (disch := (first | omega | (simp only [size_new, size_newm, size_wr, size_wrm] <;> omega) | fail)) only [go_sem, Nat.reduceBEq, Nat.reduceAdd, Nat.reduceMul, Nat.reduceLeDiff, ↓reduceIte, rd_new_lt, own_new_lt, mp_new_lt, rd_newm_lt, own_newm_lt, mp_newm_lt, rd_wr_ne, own_wr_ne, mp_wr_ne, rd_wrm_ne, own_wrm_ne, mp_wrm_ne, rd_new_eq, own_new_eq, mp_newm_eq]
        rw [wrap64 (n := (7 : Int) - (i : Int) - 1) (by omega) (by omega)]
        refine ⟨8 - (i + 1), by omega, i + 1, w', fp', rfl, by omega, f2.then e' (fun z hz => hz), hfp', ?_, by rw [show (7 : Int) - (i : Int) - 1 = 7 - ((i + 1 : Nat) : Int) by omega]⟩
        rw [e1, List.map_append]
        exact s'
      · have hi8 : i = 8 := by omega
        subst hi8
        rw [wrap64 (n := (j : Int) + 1) (by omega) (by omega)]
        refine ⟨b.length - (j + 1), by omega, j + 1, wv, fp, rfl, by omega, f2, hfp, ?_, rfl⟩
        have e1 : bitsAll (b.take (j + 1)) = bitsAll (b.take j) ++ (bits8 x).take 8 := by
          rw [List.take_of_length_le (l := bits8 x) (by rw [bits8_len]; omega), ← bitsAll_snoc, List.take_add_one, hx]
          rfl
        rw [e1]
        exact s2
    have hj2 : j = b.length := by omega
    subst hj2
    rw [List.take_length] at s1
    have hbl := bitsAll_len b
    have hkl := hU.le
    generalize hB : bitsAll b = B at *
    obtain ⟨a4, c4, rfl, hc4⟩ := sl_val s1
    simp (disch := (first | omega | (simp only [size_new, size_newm, size_wr, size_wrm] <;> omega) | fail)) only [go_sem, Nat.reduceBEq, Nat.reduceAdd, Nat.reduceMul, Nat.reduceLeDiff, ↓reduceIte, rd_new_lt, own_new_lt, mp_new_lt, rd_newm_lt, own_newm_lt, mp_newm_lt, rd_wr_ne, own_wr_ne, mp_wr_ne, rd_wrm_ne, own_wrm_ne, mp_wrm_ne, rd_new_eq, own_new_eq, mp_newm_eq]
    refine ⟨⟨by omega, by omega⟩, ?_⟩
    have hrd1 := f1.rd hrd (fun h => h)
    simp (disch := (first | omega | (simp only [size_new, size_newm, size_wr, size_wrm] <;> omega) | fail)) only [go_sem, Nat.reduceBEq, Nat.reduceAdd, Nat.reduceMul, Nat.reduceLeDiff, ↓reduceIte, rd_new_lt, own_new_lt, mp_new_lt, rd_newm_lt, own_newm_lt, mp_newm_lt, rd_wr_ne, own_wr_ne, mp_wr_ne, rd_wrm_ne, own_wrm_ne, mp_wrm_ne, rd_new_eq, own_new_eq, mp_newm_eq, hrd1, Int.toNat_zero, Nat.zero_mul, Nat.add_zero, hcell']
    rw [wrap64 (n := (k : Int)) (by omega) (by omega)]
    rw [wrap64 (n := (((B.map btN).length : Nat) : Int) - (k : Int)) (by rw [List.length_map]; omega) (by rw [List.length_map]; omega)]
    have hBl : (B.map btN).length = B.length := List.length_map ..
    refine ⟨⟨by omega, by omega, by omega, by omega⟩, ?_⟩
    simp (disch := (first | omega | (simp only [size_new, size_newm, size_wr, size_wrm] <;> omega) | fail)) only [go_sem, Nat.reduceBEq, Nat.reduceAdd, Nat.reduceMul, Nat.reduceLeDiff, ↓reduceIte, rd_new_lt, own_new_lt, mp_new_lt, rd_newm_lt, own_newm_lt, mp_newm_lt, rd_wr_ne, own_wr_ne, mp_wr_ne, rd_wrm_ne, own_wrm_ne, mp_wrm_ne, rd_new_eq, own_new_eq, mp_newm_eq]
    have r5 := RdS.sub s1.rd (lo := 0) (hi := B.length - k) (Nat.zero_le _) (by omega) (b' := if (c4 : Int) = ((0 : Nat) : Int) then a4 else Option.map (fun x => x.add (((0 : Nat) : Int).toNat * 1)) a4) (c' := (c4 : Int).toNat - ((0 : Nat) : Int).toNat) (fun hlt => by rw [if_neg (by omega)]; rfl)
    rw [show ((((B.map btN).length : Nat) : Int) - (k : Int)).toNat - ((0 : Nat) : Int).toNat = B.length - k - 0 by omega]
    refine RdS.rowOf r5 ?_
    have e5 : ((u8s (B.map btN)).drop (0 * 1)).take ((B.length - k - 0) * 1) = u8s ((B.take (B.length - k)).map btN) := by
      rw [Nat.zero_mul, List.drop_zero, Nat.mul_one, Nat.sub_zero]
      unfold u8s
      rw [← List.map_take, ← List.map_take]
    rw [e5, bytesOf_u8s, btN_map]
    simp (disch := (first | omega | (simp only [size_new, size_newm, size_wr, size_wrm] <;> omega) | fail)) only [go_sem, Nat.reduceBEq, Nat.reduceAdd, Nat.reduceMul, Nat.reduceLeDiff, ↓reduceIte, rd_new_lt, own_new_lt, mp_new_lt, rd_newm_lt, own_newm_lt, mp_newm_lt, rd_wr_ne, own_wr_ne, mp_wr_ne, rd_wrm_ne, own_wrm_ne, mp_wrm_ne, rd_new_eq, own_new_eq, mp_newm_eq]
    have hTl : (B.take (B.length - k)).length = B.length - k := by rw [List.length_take]; omega
    refine (code_Pack_spec (H := H1) (bits := (B.take (B.length - k)).map bt) (by rw [List.length_map]; omega)).mono ?_
    rintro v6 H6 ⟨f6, hp6⟩
    have f06 := f1.trans f6
    rcases hp6 with ⟨hbad, rfl⟩ | ⟨w6, a6, c6, hw6, hl6, rfl, r6⟩
    · exact absurd ⟨all_bits _, by rw [List.length_map]; omega⟩ hbad
    have hw6' := mapbt_inj hw6
    subst hw6'
    simp (disch := (first | omega | (simp only [size_new, size_newm, size_wr, size_wrm] <;> omega) | fail)) only [go_sem, Nat.reduceBEq, Nat.reduceAdd, Nat.reduceMul, Nat.reduceLeDiff, ↓reduceIte, rd_new_lt, own_new_lt, mp_new_lt, rd_newm_lt, own_newm_lt, mp_newm_lt, rd_wr_ne, own_wr_ne, mp_wr_ne, rd_wrm_ne, own_wrm_ne, mp_wrm_ne, rd_new_eq, own_new_eq, mp_newm_eq]
    have hcb : ∀ x ∈ b, x < 256 := fun x hx => hns x (List.mem_cons_of_mem _ hx)
    have hup := unp_pack hU hcb
    rw [hB] at hup
    refine (EqualB_spec r6 (h.fresh f06) (by rw [packL_len]; omega) hl).mono ?_
    rintro _ _ ⟨rfl, rfl⟩
    simp (disch := (first | omega | (simp only [size_new, size_newm, size_wr, size_wrm] <;> omega) | fail)) only [go_sem, Nat.reduceBEq, Nat.reduceAdd, Nat.reduceMul, Nat.reduceLeDiff, ↓reduceIte, rd_new_lt, own_new_lt, mp_new_lt, rd_newm_lt, own_newm_lt, mp_newm_lt, rd_wr_ne, own_wr_ne, mp_wr_ne, rd_wrm_ne, own_wrm_ne, mp_wrm_ne, rd_new_eq, own_new_eq, mp_newm_eq]
    refine Both.dec (fun heq => ?_) (fun heq => ?_) <;> simp (disch := (first | omega | (simp only [size_new, size_newm, size_wr, size_wrm] <;> omega) | fail)) only [go_sem, Nat.reduceBEq, Nat.reduceAdd, Nat.reduceMul, Nat.reduceLeDiff, ↓reduceIte, rd_new_lt, own_new_lt, mp_new_lt, rd_newm_lt, own_newm_lt, mp_newm_lt, rd_wr_ne, own_wr_ne, mp_wr_ne, rd_wrm_ne, own_wrm_ne, mp_wrm_ne, rd_new_eq, own_new_eq, mp_newm_eq]
    · exact ⟨.inl ⟨k, b, rfl, hU, by rw [hB]; exact hup.1 heq, by rw [hB]; rfl⟩, f06⟩
    · refine ⟨.inr ⟨fun hex => ?_, rfl⟩, f06⟩
      obtain ⟨k', b', e, hu, hd⟩ := hex
      obtain ⟨rfl, rfl⟩ := hinj e
      rw [hB] at hd
      exact heq (hup.2 hd)

end Go.Proofs.Ytbnaicgmnadkgaa
