/-
  Texts put behind each other by a program: Kr.
-/
import Derived.Test.YtjlnnljohemifaaGreatK0
import Derived.Test.YtjlnnljohemifaaGreatK18
import Derived.Test.YtjlnnljohemifaaGreatK20
import Derived.Test.YtjlnnljohemifaaGreatK22
set_option linter.unusedVariables false
set_option linter.unusedSimpArgs false
namespace Go.Proofs.YtjlnnljohemifaaGreat
open Go Go.Vc
def one1 (x : Int) : Int := max x 1
def krN (l : List Int) : List Nat := l.map fun x => (one1 x).toNat
theorem one1_pos (x : Int) : 1 ≤ one1 x := by unfold one1; omega
theorem one_step {l : List Int} {j : Nat} {x : Int} (hx : l[j]? = some x) : ((l.take j).map one1 ++ l.drop j).set j (one1 x) = (l.take (j + 1)).map one1 ++ l.drop (j + 1) := by
  obtain ⟨h1, h2⟩ := List.getElem?_eq_some_iff.1 hx
  have e : ((l.take j).map one1).length = j := by simp; omega
  rw [List.set_append, e, if_neg (by omega), Nat.sub_self, List.drop_eq_getElem_cons h1, List.set_cons_zero, List.take_add_one, hx, List.map_append, List.append_assoc]
  rfl
theorem KrInv.jumpZ {M : Nat} {ns : List Nat} {j free at_ n : Nat} (h : KrInv M ns j free at_) (hf : free = 0) (h2 : n ≤ M) : KrInv M ns j free n := by
  subst hf
  exact h.jump0 h2
theorem sortI_perm (xs : List Int) : (sortI xs).Perm xs := List.mergeSort_perm _ _
theorem sortI_sorted (xs : List Int) : (sortI xs).Pairwise (· ≤ ·) := by
  have := List.pairwise_mergeSort (le := fun x y : Int => decide (x ≤ y)) (fun a b c h1 h2 => by simp at *; omega) (fun a b => by simp; omega) xs
  exact this.imp fun h => by simpa using h
theorem krN_sorted (l : List Int) : ((sortI (l.map one1)).map Int.toNat).Perm (krN l) := by
  have := (sortI_perm (l.map one1)).map Int.toNat
  rwa [List.map_map] at this
set_option maxHeartbeats 4000000 in
theorem lengths_Kraft_spec {H : Hp} {a : Option Addr} {c : Nat} {l : List Int} (h : RdS H 1 (.slice a l.length c) l.length (l.map i64)) (hl : l.length ≤ 1000000) {M : Nat} (hM : ∀ n ∈ krN l, n ≤ M) (hM2 : M ≤ 9223372036854775807) :
    CallH Tryz.prog n_lengths_Kraft [.slice a l.length c] H fun v H' => Post (v = i64 (krS M (krN l)) ∧ Fresh H H') := by
  refine ccT d_lengths_Kraft ⟨rfl, ?_⟩
  refine v1 s_lengths_Kraft.eq_1 ?_
  refine (slices_Clone_spec h hl).mono ?_
  rintro r H1 ⟨f1, fp, s1, hfp⟩
  obtain ⟨ra, rc, rfl, hrc⟩ := slv_val s1
  refine vs ?_
  refine LoopV.intro (fun m env H' => Fresh H H' ∧ ∃ (j : Nat), m = l.length - j ∧ j ≤ l.length ∧ Sl H' 1 (.slice ra l.length rc) l.length (((l.take j).map one1 ++ l.drop j).map i64) fp ∧
    env = [(3, .slice ra l.length rc), (12, i64 l.length), (13, i64 j)]) l.length ⟨f1, 0, by omega, by omega, by simpa using s1, rfl⟩ ?_
  rintro m env H2 ⟨f2, j, hm, hj, s2, rfl⟩
  refine vs ?_
  refine Both.dec (fun hlt => ?_) (fun hlt => ?_) <;> refine vs ?_
  · have hj2 : j < l.length := by omega
    obtain ⟨x, hx⟩ : ∃ x, l[j]? = some x := ⟨_, List.getElem?_eq_getElem hj2⟩
    have hx2 : ((l.take j).map one1 ++ l.drop j)[j]? = some x := by
      rw [List.getElem?_append_right (by simp; omega)]
      simp only [List.length_map, List.length_take, Nat.min_eq_left hj]
      rw [List.getElem?_drop, Nat.sub_self, Nat.add_zero, hx]
    cases fp with
    | none => obtain ⟨_, h0, _⟩ := s2; omega
    | some b =>
      obtain ⟨_, rfl, lb, ho, hc⟩ := Sl.num s2 hx2
      have hll : l.length ≤ lb.length := by
        obtain ⟨_, l', c2, _, h2, h3, h4, _⟩ := s2
        rw [ho] at h2; injection h2 with h2; subst h2; omega
      refine ⟨⟨by omega, by omega⟩, ?_⟩
      refine v5 (rd_of_own ho) Int.toNat_natCast Nat.mul_one Nat.zero_add hc ?_
      refine ⟨⟨by omega, by omega⟩, ?_⟩
      refine v4 ho Int.toNat_natCast Nat.mul_one Nat.zero_add ?_
      refine ⟨by omega, ?_⟩
      have s3 := s2.set1 ho j (i64 (one1 x))
      have e3 : Fresh H (H2.wr b (lb.set j (i64 (one1 x)))) := f2.then ((Ext.refl (fun z => z = b) _).wr (fun _ => rfl) _) (fun z hz => by have := hfp b rfl; omega)
      rw [← List.map_set, one_step hx] at s3
      have hif : (if 1 > x then (1 : Int) else x) = one1 x := by unfold one1; split <;> omega
      refine vs ?_
      rw [hif, wrap64 (n := (j : Int) + 1) (by omega) (by omega)]
      exact ⟨l.length - (j + 1), by omega, e3, j + 1, rfl, by omega, s3, rfl⟩
  have hj2 : j = l.length := by omega
  subst hj2
  rw [List.take_length, List.drop_length, List.append_nil] at s2
  have hlm : (l.map one1).length = l.length := List.length_map ..
  rw [← hlm] at s2 ⊢
  refine (slices_Sort_spec s2 (by omega)).mono ?_
  rintro _ H3 ⟨rfl, s3, e3⟩
  have f3 : Fresh H H3 := f2.then e3 (fun z hz => (hfp z hz).1)
  have hL : (sortI (l.map one1)).length = l.length := by rw [sortI_len, hlm]
  have hlow : ∀ x ∈ sortI (l.map one1), 1 ≤ x ∧ x ≤ M := fun x hx => by
    have := (sortI_perm (l.map one1)).mem_iff.1 hx
    obtain ⟨y, hy, rfl⟩ := List.mem_map.1 this
    have h1 := one1_pos y
    have h2 := hM (one1 y).toNat (List.mem_map.2 ⟨y, hy, rfl⟩)
    omega
  rw [hlm, ← hL] at s3 ⊢
  have hperm := krN_sorted l
  have hsort := sortI_sorted (l.map one1)
  generalize hLL : sortI (l.map one1) = L at *
  generalize hns0 : L.map Int.toNat = ns at *
  have hnl : ns.length = L.length := by rw [← hns0]; simp
  refine vs ?_
  refine LoopV.intro (fun m env H' => H' = H3 ∧ ∃ (j free at_ : Nat), m = L.length - j ∧ j ≤ L.length ∧ KrInv M ns j free at_ ∧ free ≤ 2 * L.length + 1 ∧ (∀ x, L[j]? = some x → (at_ : Int) ≤ x) ∧
    env = [(3, .slice ra L.length rc), (5, i64 free), (6, i64 at_), (27, .slice ra L.length rc), (28, i64 L.length), (29, i64 j)]) L.length ⟨rfl, 0, 1, 0, by omega, by omega, KrInv.begin M ns, by omega, fun x hx => by have := hlow x (List.mem_of_getElem? hx); omega, rfl⟩ ?_
  rintro m env H4 ⟨rfl, j, free, at_, hm, hj, hk, hfr, hat, rfl⟩
  refine vs ?_
  refine Both.dec (fun hlt => ?_) (fun hlt => ?_) <;> refine vs ?_
  · obtain ⟨x, hx⟩ : ∃ x, L[j]? = some x := ⟨_, List.getElem?_eq_getElem (by omega)⟩
    obtain ⟨x1, x2⟩ := hlow x (List.mem_of_getElem? hx)
    have hns : ns[j]? = some x.toNat := by rw [← hns0, List.getElem?_map, hx]; rfl
    have hax := hat x hx
    obtain ⟨_, b, o, lb, rfl, hrd, hcell⟩ := RdS.num s3.rd hx
    refine ⟨⟨by omega, by omega⟩, ?_⟩
    refine v4 hrd Int.toNat_natCast Nat.mul_one hcell ?_
    refine LoopV.intro (fun m' env H' => H' = H4 ∧ ∃ (free at_ : Nat), m' = x.toNat - at_ ∧ KrInv M ns j free at_ ∧ free ≤ 2 * L.length + 1 ∧ (at_ : Int) ≤ x ∧
      env = [(3, .slice (some ⟨b, o, none⟩) L.length rc), (5, i64 free), (6, i64 at_), (8, i64 x), (27, .slice (some ⟨b, o, none⟩) L.length rc), (28, i64 L.length), (29, i64 j)]) (x.toNat - at_) ⟨rfl, free, at_, rfl, hk, hfr, hax, rfl⟩ ?_
    clear hk hfr hax hat
    rintro m' env H5 ⟨rfl, free, at_, hm', hk, hfr, hax, rfl⟩
    refine vs ?_
    refine Both.dec (fun g1 => ?_) (fun g1 => ?_) <;> refine vs ?_
    · refine Both.dec (fun g2 => ?_) (fun g2 => ?_) <;> refine vs ?_
      · refine Both.dec (fun g3 => ?_) (fun g3 => ?_) <;> refine vs ?_
        · rw [wrap64 (n := (free : Int) * 2) (by omega) (by omega), wrap64 (n := (at_ : Int) + 1) (by omega) (by omega)]
          exact ⟨x.toNat - (at_ + 1), by omega, trivial, free * 2, at_ + 1, rfl, hk.double (by omega), by omega, by omega, rfl⟩
        · have hK : KrInv M ns j free x.toNat := hk.jump (by omega) (by omega) (by omega)
          refine Both.dec (fun hz => ?_) (fun hz => ?_) <;> refine vs ?_
          · have hz0 : free = 0 := by omega
            subst hz0
            rw [← krS_perm M hperm, hK.none (m := x.toNat) hns]
            exact ⟨rfl, f3⟩
          · rw [wrap64 (n := (free : Int) - 1) (by omega) (by omega), wrap64 (n := (j : Int) + 1) (by omega) (by omega)]
            refine ⟨L.length - (j + 1), by omega, trivial, j + 1, free - 1, x.toNat, rfl, by omega, hK.use hns (by omega), by omega, fun y hy => ?_, by rw [show ((free - 1 : Nat) : Int) = (free : Int) - 1 by omega, show ((x.toNat : Nat) : Int) = x by omega]; rfl⟩
            obtain ⟨hy1, hy2⟩ := List.getElem?_eq_some_iff.1 hy
            obtain ⟨hx1, hx2⟩ := List.getElem?_eq_some_iff.1 hx
            have := List.pairwise_iff_getElem.1 hsort j (j + 1) hx1 hy1 (by omega)
            rw [hy2, hx2] at this
            omega
      · have hK : KrInv M ns j free x.toNat := hk.jumpZ (by omega) (by omega)
        refine Both.dec (fun hz => ?_) (fun hz => ?_) <;> refine vs ?_
        · have hz0 : free = 0 := by omega
          subst hz0
          rw [← krS_perm M hperm, hK.none (m := x.toNat) hns]
          exact ⟨rfl, f3⟩
        · rw [wrap64 (n := (free : Int) - 1) (by omega) (by omega), wrap64 (n := (j : Int) + 1) (by omega) (by omega)]
          refine ⟨L.length - (j + 1), by omega, trivial, j + 1, free - 1, x.toNat, rfl, by omega, hK.use hns (by omega), by omega, fun y hy => ?_, by rw [show ((free - 1 : Nat) : Int) = (free : Int) - 1 by omega, show ((x.toNat : Nat) : Int) = x by omega]; rfl⟩
          obtain ⟨hy1, hy2⟩ := List.getElem?_eq_some_iff.1 hy
          obtain ⟨hx1, hx2⟩ := List.getElem?_eq_some_iff.1 hx
          have := List.pairwise_iff_getElem.1 hsort j (j + 1) hx1 hy1 (by omega)
          rw [hy2, hx2] at this
          omega
    · have hK : KrInv M ns j free x.toNat := (show x.toNat = at_ by omega) ▸ hk
      refine Both.dec (fun hz => ?_) (fun hz => ?_) <;> refine vs ?_
      · have hz0 : free = 0 := by omega
        subst hz0
        rw [← krS_perm M hperm, hK.none (m := x.toNat) hns]
        exact ⟨rfl, f3⟩
      · rw [wrap64 (n := (free : Int) - 1) (by omega) (by omega), wrap64 (n := (j : Int) + 1) (by omega) (by omega)]
        refine ⟨L.length - (j + 1), by omega, trivial, j + 1, free - 1, x.toNat, rfl, by omega, hK.use hns (by omega), by omega, fun y hy => ?_, by rw [show ((free - 1 : Nat) : Int) = (free : Int) - 1 by omega, show ((x.toNat : Nat) : Int) = x by omega]; rfl⟩
        obtain ⟨hy1, hy2⟩ := List.getElem?_eq_some_iff.1 hy
        obtain ⟨hx1, hx2⟩ := List.getElem?_eq_some_iff.1 hx
        have := List.pairwise_iff_getElem.1 hsort j (j + 1) hx1 hy1 (by omega)
        rw [hy2, hx2] at this
        omega
  · have hj2 : j = L.length := by omega
    subst hj2
    rw [← hnl] at hk
    have hd := hk.done
    rw [krS_perm M hperm] at hd
    refine Both.dec (fun hz => ?_) (fun hz => ?_) <;> refine vs ?_
    · rw [hd, if_pos (by omega)]
      exact ⟨rfl, f3⟩
    · rw [hd, if_neg (by omega)]
      exact ⟨rfl, f3⟩
end Go.Proofs.YtjlnnljohemifaaGreat
