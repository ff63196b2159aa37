/-
  Texts put behind each other by a program: Kr, Kr26.
-/
import Derived.Test.YtjlnnljohemifaaGreatK0
import Derived.Test.YtjlnnljohemifaaGreatK18
import Derived.Test.YtjlnnljohemifaaGreatK20
import Derived.Test.YtjlnnljohemifaaGreatK22
set_option linter.unusedVariables false
set_option linter.unusedSimpArgs false
namespace Go.Proofs.YtjlnnljohemifaaGreat
open Go Go.Vc
def one1 (x : Int) : Int := max x 1
def krN (l : List Int) : List Nat := l.map fun x => (one1 x).toNat
theorem one1_pos (x : Int) : 1 ≤ one1 x := by unfold one1; omega
theorem krN_len (l : List Int) : (krN l).length = l.length := by unfold krN; simp
theorem krN_at {l : List Int} {i : Nat} {x : Int} (h : l[i]? = some x) : (krN l)[i]? = some (one1 x).toNat := by unfold krN; rw [List.getElem?_map, h]; rfl
theorem one_step {l : List Int} {j : Nat} {x : Int} (hx : l[j]? = some x) : ((l.take j).map one1 ++ l.drop j).set j (one1 x) = (l.take (j + 1)).map one1 ++ l.drop (j + 1) := by
  obtain ⟨h1, h2⟩ := List.getElem?_eq_some_iff.1 hx
  have e : ((l.take j).map one1).length = j := by simp; omega
  rw [List.set_append, e, if_neg (by omega), Nat.sub_self, List.drop_eq_getElem_cons h1, List.set_cons_zero, List.take_add_one, hx, List.map_append, List.append_assoc]
  rfl
theorem KrInv.jumpZ {M : Nat} {ns : List Nat} {j free at_ n : Nat} (h : KrInv M ns j free at_) (hf : free = 0) (h2 : n ≤ M) : KrInv M ns j free n := by
  subst hf
  exact h.jump0 h2
theorem sortI_perm (xs : List Int) : (sortI xs).Perm xs := List.mergeSort_perm _ _
theorem sortI_sorted (xs : List Int) : (sortI xs).Pairwise (· ≤ ·) := by
  have := List.pairwise_mergeSort (le := fun x y : Int => decide (x ≤ y)) (fun a b c h1 h2 => by simp at *; omega) (fun a b => by simp; omega) xs
  exact this.imp fun h => by simpa using h
theorem krN_sorted (l : List Int) : ((sortI (l.map one1)).map Int.toNat).Perm (krN l) := by
  have := (sortI_perm (l.map one1)).map Int.toNat
  rwa [List.map_map] at this
set_option maxHeartbeats 4000000 in
theorem lengths_Kraft_spec {H : Hp} {a : Option Addr} {c : Nat} {l : List Int} (h : RdS H 1 (.slice a l.length c) l.length (l.map i64)) (hl : l.length ≤ 1000000) {M : Nat} (hM : ∀ n ∈ krN l, n ≤ M) (hM2 : M ≤ 9223372036854775807) :
    CallH Tryz.prog n_lengths_Kraft [.slice a l.length c] H fun v H' => Post (v = i64 (krS M (krN l)) ∧ Fresh H H') := by
  refine ccT d_lengths_Kraft ⟨rfl, ?_⟩
  refine v1 s_lengths_Kraft.eq_1 ?_
  refine (slices_Clone_spec h hl).mono ?_
  rintro r H1 ⟨f1, fp, s1, hfp⟩
  obtain ⟨ra, rc, rfl, hrc⟩ := slv_val s1
  refine vs ?_
  refine LoopV.intro (fun m env H' => Fresh H H' ∧ ∃ (j : Nat), m = l.length - j ∧ j ≤ l.length ∧ Sl H' 1 (.slice ra l.length rc) l.length (((l.take j).map one1 ++ l.drop j).map i64) fp ∧
    env = [(3, .slice ra l.length rc), (12, i64 l.length), (13, i64 j)]) l.length ⟨f1, 0, by omega, by omega, by simpa using s1, rfl⟩ ?_
  rintro m env H2 ⟨f2, j, hm, hj, s2, rfl⟩
  refine vs ?_
  refine Both.dec (fun hlt => ?_) (fun hlt => ?_) <;> refine vs ?_
  · have hj2 : j < l.length := by omega
    obtain ⟨x, hx⟩ : ∃ x, l[j]? = some x := ⟨_, List.getElem?_eq_getElem hj2⟩
    have hx2 : ((l.take j).map one1 ++ l.drop j)[j]? = some x := by
      rw [List.getElem?_append_right (by simp; omega)]
      simp only [List.length_map, List.length_take, Nat.min_eq_left hj]
      rw [List.getElem?_drop, Nat.sub_self, Nat.add_zero, hx]
    cases fp with
    | none => obtain ⟨_, h0, _⟩ := s2; omega
    | some b =>
      obtain ⟨_, rfl, lb, ho, hc⟩ := Sl.num s2 hx2
      have hll : l.length ≤ lb.length := by
        obtain ⟨_, l', c2, _, h2, h3, h4, _⟩ := s2
        rw [ho] at h2; injection h2 with h2; subst h2; omega
      refine ⟨⟨by omega, by omega⟩, ?_⟩
      refine v5 (rd_of_own ho) Int.toNat_natCast Nat.mul_one Nat.zero_add hc ?_
      refine ⟨⟨by omega, by omega⟩, ?_⟩
      refine v4 ho Int.toNat_natCast Nat.mul_one Nat.zero_add ?_
      refine ⟨by omega, ?_⟩
      have s3 := s2.set1 ho j (i64 (one1 x))
      have e3 : Fresh H (H2.wr b (lb.set j (i64 (one1 x)))) := f2.then ((Ext.refl (fun z => z = b) _).wr (fun _ => rfl) _) (fun z hz => by have := hfp b rfl; omega)
      rw [← List.map_set, one_step hx] at s3
      have hif : (if 1 > x then (1 : Int) else x) = one1 x := by unfold one1; split <;> omega
      refine vs ?_
      rw [hif, wrap64 (n := (j : Int) + 1) (by omega) (by omega)]
      exact ⟨l.length - (j + 1), by omega, e3, j + 1, rfl, by omega, s3, rfl⟩
  have hj2 : j = l.length := by omega
  subst hj2
  rw [List.take_length, List.drop_length, List.append_nil] at s2
  have hlm : (l.map one1).length = l.length := List.length_map ..
  rw [← hlm] at s2 ⊢
  refine (slices_Sort_spec s2 (by omega)).mono ?_
  rintro _ H3 ⟨rfl, s3, e3⟩
  have f3 : Fresh H H3 := f2.then e3 (fun z hz => (hfp z hz).1)
  have hL : (sortI (l.map one1)).length = l.length := by rw [sortI_len, hlm]
  have hlow : ∀ x ∈ sortI (l.map one1), 1 ≤ x ∧ x ≤ M := fun x hx => by
    have := (sortI_perm (l.map one1)).mem_iff.1 hx
    obtain ⟨y, hy, rfl⟩ := List.mem_map.1 this
    have h1 := one1_pos y
    have h2 := hM (one1 y).toNat (List.mem_map.2 ⟨y, hy, rfl⟩)
    omega
  rw [hlm, ← hL] at s3 ⊢
  have hperm := krN_sorted l
  have hsort := sortI_sorted (l.map one1)
  generalize hLL : sortI (l.map one1) = L at *
  generalize hns0 : L.map Int.toNat = ns at *
  have hnl : ns.length = L.length := by rw [← hns0]; simp
  refine vs ?_
  refine LoopV.intro (fun m env H' => H' = H3 ∧ ∃ (j free at_ : Nat), m = L.length - j ∧ j ≤ L.length ∧ KrInv M ns j free at_ ∧ free ≤ 2 * L.length + 1 ∧ (∀ x, L[j]? = some x → (at_ : Int) ≤ x) ∧
    env = [(3, .slice ra L.length rc), (5, i64 free), (6, i64 at_), (27, .slice ra L.length rc), (28, i64 L.length), (29, i64 j)]) L.length ⟨rfl, 0, 1, 0, by omega, by omega, KrInv.begin M ns, by omega, fun x hx => by have := hlow x (List.mem_of_getElem? hx); omega, rfl⟩ ?_
  rintro m env H4 ⟨rfl, j, free, at_, hm, hj, hk, hfr, hat, rfl⟩
  refine vs ?_
  refine Both.dec (fun hlt => ?_) (fun hlt => ?_) <;> refine vs ?_
  · obtain ⟨x, hx⟩ : ∃ x, L[j]? = some x := ⟨_, List.getElem?_eq_getElem (by omega)⟩
    obtain ⟨x1, x2⟩ := hlow x (List.mem_of_getElem? hx)
    have hns : ns[j]? = some x.toNat := by rw [← hns0, List.getElem?_map, hx]; rfl
    have hax := hat x hx
    obtain ⟨_, b, o, lb, rfl, hrd, hcell⟩ := RdS.num s3.rd hx
    refine ⟨⟨by omega, by omega⟩, ?_⟩
    refine v4 hrd Int.toNat_natCast Nat.mul_one hcell ?_
    refine LoopV.intro (fun m' env H' => H' = H4 ∧ ∃ (free at_ : Nat), m' = x.toNat - at_ ∧ KrInv M ns j free at_ ∧ free ≤ 2 * L.length + 1 ∧ (at_ : Int) ≤ x ∧
      env = [(3, .slice (some ⟨b, o, none⟩) L.length rc), (5, i64 free), (6, i64 at_), (8, i64 x), (27, .slice (some ⟨b, o, none⟩) L.length rc), (28, i64 L.length), (29, i64 j)]) (x.toNat - at_) ⟨rfl, free, at_, rfl, hk, hfr, hax, rfl⟩ ?_
    clear hk hfr hax hat
    rintro m' env H5 ⟨rfl, free, at_, hm', hk, hfr, hax, rfl⟩
    refine vs ?_
    refine Both.dec (fun g1 => ?_) (fun g1 => ?_) <;> refine vs ?_
    · refine Both.dec (fun g2 => ?_) (fun g2 => ?_) <;> refine vs ?_
      · refine Both.dec (fun g3 => ?_) (fun g3 => ?_) <;> refine vs ?_
        · rw [wrap64 (n := (free : Int) * 2) (by omega) (by omega), wrap64 (n := (at_ : Int) + 1) (by omega) (by omega)]
          exact ⟨x.toNat - (at_ + 1), by omega, trivial, free * 2, at_ + 1, rfl, hk.double (by omega), by omega, by omega, rfl⟩
        · have hK : KrInv M ns j free x.toNat := hk.jump (by omega) (by omega) (by omega)
          refine Both.dec (fun hz => ?_) (fun hz => ?_) <;> refine vs ?_
          · have hz0 : free = 0 := by omega
            subst hz0
            rw [← krS_perm M hperm, hK.none (m := x.toNat) hns]
            exact ⟨rfl, f3⟩
          · rw [wrap64 (n := (free : Int) - 1) (by omega) (by omega), wrap64 (n := (j : Int) + 1) (by omega) (by omega)]
            refine ⟨L.length - (j + 1), by omega, trivial, j + 1, free - 1, x.toNat, rfl, by omega, hK.use hns (by omega), by omega, fun y hy => ?_, by rw [show ((free - 1 : Nat) : Int) = (free : Int) - 1 by omega, show ((x.toNat : Nat) : Int) = x by omega]; rfl⟩
            obtain ⟨hy1, hy2⟩ := List.getElem?_eq_some_iff.1 hy
            obtain ⟨hx1, hx2⟩ := List.getElem?_eq_some_iff.1 hx
            have := List.pairwise_iff_getElem.1 hsort j (j + 1) hx1 hy1 (by omega)
            rw [hy2, hx2] at this
            omega
      · have hK : KrInv M ns j free x.toNat := hk.jumpZ (by omega) (by omega)
        refine Both.dec (fun hz => ?_) (fun hz => ?_) <;> refine vs ?_
        · have hz0 : free = 0 := by omega
          subst hz0
          rw [← krS_perm M hperm, hK.none (m := x.toNat) hns]
          exact ⟨rfl, f3⟩
        · rw [wrap64 (n := (free : Int) - 1) (by omega) (by omega), wrap64 (n := (j : Int) + 1) (by omega) (by omega)]
          refine ⟨L.length - (j + 1), by omega, trivial, j + 1, free - 1, x.toNat, rfl, by omega, hK.use hns (by omega), by omega, fun y hy => ?_, by rw [show ((free - 1 : Nat) : Int) = (free : Int) - 1 by omega, show ((x.toNat : Nat) : Int) = x by omega]; rfl⟩
          obtain ⟨hy1, hy2⟩ := List.getElem?_eq_some_iff.1 hy
          obtain ⟨hx1, hx2⟩ := List.getElem?_eq_some_iff.1 hx
          have := List.pairwise_iff_getElem.1 hsort j (j + 1) hx1 hy1 (by omega)
          rw [hy2, hx2] at this
          omega
    · have hK : KrInv M ns j free x.toNat := (show x.toNat = at_ by omega) ▸ hk
      refine Both.dec (fun hz => ?_) (fun hz => ?_) <;> refine vs ?_
      · have hz0 : free = 0 := by omega
        subst hz0
        rw [← krS_perm M hperm, hK.none (m := x.toNat) hns]
        exact ⟨rfl, f3⟩
      · rw [wrap64 (n := (free : Int) - 1) (by omega) (by omega), wrap64 (n := (j : Int) + 1) (by omega) (by omega)]
        refine ⟨L.length - (j + 1), by omega, trivial, j + 1, free - 1, x.toNat, rfl, by omega, hK.use hns (by omega), by omega, fun y hy => ?_, by rw [show ((free - 1 : Nat) : Int) = (free : Int) - 1 by omega, show ((x.toNat : Nat) : Int) = x by omega]; rfl⟩
        obtain ⟨hy1, hy2⟩ := List.getElem?_eq_some_iff.1 hy
        obtain ⟨hx1, hx2⟩ := List.getElem?_eq_some_iff.1 hx
        have := List.pairwise_iff_getElem.1 hsort j (j + 1) hx1 hy1 (by omega)
        rw [hy2, hx2] at this
        omega
  · have hj2 : j = L.length := by omega
    subst hj2
    rw [← hnl] at hk
    have hd := hk.done
    rw [krS_perm M hperm] at hd
    refine Both.dec (fun hz => ?_) (fun hz => ?_) <;> refine vs ?_
    · rw [hd, if_pos (by omega)]
      exact ⟨rfl, f3⟩
    · rw [hd, if_neg (by omega)]
      exact ⟨rfl, f3⟩
def above (ns : List Nat) (k : Nat) : List Nat := ns.filter fun y => decide (k < y)
def same (ns : List Nat) (k : Nat) : Nat := ns.countP fun y => decide (y = k)
def under (ns : List Nat) (k : Nat) : Nat := ns.foldl (fun m y => if y < k then max m y else m) 0
theorem above_step (M : Nat) (k : Nat) : ∀ ns : List Nat, kS M (above ns k) = kS M (above ns (k + 1)) + same ns (k + 1) * 2 ^ (M - (k + 1)) := by
  intro ns
  induction ns with
  | nil => simp [above, same, kS]
  | cons y ns ih =>
    unfold above same at *
    rw [List.filter_cons, List.filter_cons, List.countP_cons]
    by_cases h1 : k + 1 < y
    · rw [if_pos (by simp; omega), if_pos (by simp; omega), if_neg (by simp; omega), kS_cons, kS_cons, ih]
      simp only [Nat.add_zero]
      omega
    · by_cases h2 : y = k + 1
      · rw [if_pos (by simp; omega), if_neg (by simp; omega), if_pos (by simp; omega), kS_cons, ih, h2, Nat.add_mul]
        omega
      · rw [if_neg (by simp; omega), if_neg (by simp; omega), if_neg (by simp; omega), ih]
        simp only [Nat.add_zero]
theorem above_len (k : Nat) : ∀ ns : List Nat, (above ns k).length = (above ns (k + 1)).length + same ns (k + 1) := by
  intro ns
  induction ns with
  | nil => simp [above, same]
  | cons y ns ih =>
    unfold above same at *
    rw [List.filter_cons, List.filter_cons, List.countP_cons]
    by_cases h1 : k + 1 < y
    · rw [if_pos (by simp; omega), if_pos (by simp; omega), if_neg (by simp; omega), List.length_cons, List.length_cons, ih]
      omega
    · by_cases h2 : y = k + 1
      · rw [if_pos (by simp; omega), if_neg (by simp; omega), if_pos (by simp; omega), List.length_cons, ih]
        omega
      · rw [if_neg (by simp; omega), if_neg (by simp; omega), if_neg (by simp; omega), ih]
        simp only [Nat.add_zero]
theorem above_none {ns : List Nat} {k : Nat} (h : ∀ y ∈ ns, y ≤ k) : above ns k = [] := by
  unfold above
  rw [List.filter_eq_nil_iff]
  intro y hy
  have := h y hy
  simp; omega
theorem above_all {ns : List Nat} (h : ∀ y ∈ ns, 1 ≤ y) : above ns 0 = ns := by
  unfold above
  rw [List.filter_eq_self]
  intro y hy
  have := h y hy
  simp; omega
theorem above_gap {ns : List Nat} {k k' : Nat} (hk : k' ≤ k) (h : ∀ y ∈ ns, ¬ (k' < y ∧ y ≤ k)) : above ns k = above ns k' := by
  unfold above
  apply List.filter_congr
  intro y hy
  have := h y hy
  rw [decide_eq_decide]
  omega
theorem under_snoc (ns : List Nat) (y k : Nat) : under (ns ++ [y]) k = if y < k then max (under ns k) y else under ns k := by unfold under; rw [List.foldl_append]; rfl
theorem under_lt {k : Nat} (hk : 0 < k) : ∀ ns : List Nat, under ns k < k ∧ ∀ y ∈ ns, y < k → y ≤ under ns k := by
  intro ns
  have : ∀ r : List Nat, under r.reverse k < k ∧ ∀ y ∈ r.reverse, y < k → y ≤ under r.reverse k := by
    intro r
    induction r with
    | nil => exact ⟨hk, by simp⟩
    | cons x r ih =>
      rw [List.reverse_cons, under_snoc]
      refine ⟨by split <;> omega, fun y hy hlt => ?_⟩
      rcases List.mem_append.1 hy with hy | hy
      · have := ih.2 y hy hlt
        split <;> omega
      · rw [List.mem_singleton] at hy
        subst hy
        rw [if_pos hlt]
        omega
  have := this ns.reverse
  rwa [List.reverse_reverse] at this
theorem same_snoc (ns : List Nat) (y k : Nat) : same (ns ++ [y]) k = same ns k + if y = k then 1 else 0 := by
  unfold same
  rw [List.countP_append, List.countP_cons]
  simp
theorem krN_take {l : List Int} {j : Nat} {x : Int} (hx : l[j]? = some x) : krN (l.take (j + 1)) = krN (l.take j) ++ [(one1 x).toNat] := by
  unfold krN
  rw [List.take_add_one, hx, List.map_append]
  rfl
set_option maxHeartbeats 4000000 in
theorem ref26_Kraft_spec {H : Hp} {a : Option Addr} {c : Nat} {l : List Int} (h : RdS H 1 (.slice a l.length c) l.length (l.map i64)) (hl : l.length ≤ 1000000) {M : Nat} (hM : ∀ n ∈ krN l, n ≤ M) (hM2 : M ≤ 9223372036854775807) :
    CallH Tryz.prog n_ref26_Kraft [.slice a l.length c] H fun v H' => Post (v = i64 (krS M (krN l)) ∧ Fresh H H') := by
  refine ccT d_ref26_Kraft ⟨rfl, ?_⟩
  refine v1 s_ref26_Kraft.eq_1 ?_
  refine LoopV.intro (fun m env H' => H' = H ∧ ∃ (j at_ : Nat), m = l.length - j ∧ j ≤ l.length ∧ (∀ y ∈ krN (l.take j), y ≤ at_) ∧ at_ ≤ M ∧
    env = [(0, .slice a l.length c), (3, i64 0), (4, .bool false), (5, i64 at_), (11, .slice a l.length c), (12, i64 l.length), (13, i64 j)]) l.length ⟨rfl, 0, 0, by omega, by omega, by simp [krN], by omega, rfl⟩ ?_
  rintro m env H1 ⟨rfl, j, at_, hm, hj, hat, hatM, rfl⟩
  refine vs ?_
  refine Both.dec (fun hlt => ?_) (fun hlt => ?_) <;> refine vs ?_
  · obtain ⟨x, hx⟩ : ∃ x, l[j]? = some x := ⟨_, List.getElem?_eq_getElem (by omega)⟩
    have hxM := hM (one1 x).toNat (List.mem_of_getElem? (krN_at hx))
    have hx1 := one1_pos x
    obtain ⟨_, b, o, lb, rfl, hrd, hcell⟩ := RdS.num h hx
    refine ⟨⟨by omega, by omega⟩, ?_⟩
    refine v4 hrd Int.toNat_natCast Nat.mul_one hcell ?_
    have hif : (if 1 > (if x > (at_ : Int) then x else (at_ : Int)) then (1 : Int) else if x > (at_ : Int) then x else (at_ : Int)) = ((max at_ (one1 x).toNat : Nat) : Int) := by
      unfold one1
      split <;> split <;> omega
    rw [hif, wrap64 (n := (j : Int) + 1) (by omega) (by omega)]
    refine ⟨l.length - (j + 1), by omega, trivial, j + 1, max at_ (one1 x).toNat, rfl, by omega, fun y hy => ?_, by omega, rfl⟩
    rw [krN_take hx] at hy
    rcases List.mem_append.1 hy with hy | hy
    · have := hat y hy; omega
    · rw [List.mem_singleton] at hy; omega
  have hj2 : j = l.length := by omega
  subst hj2
  rw [List.take_length] at hat
  have hpos : ∀ y ∈ krN l, 1 ≤ y := fun y hy => by
    obtain ⟨x, hx, rfl⟩ := List.mem_map.1 hy
    have := one1_pos x
    omega
  have hu0 : KrUp M (kS M (above (krN l) at_)) at_ 0 false := by rw [above_none hat]; exact KrUp.zero M at_
  refine LoopV.intro (fun m env H' => H' = H1 ∧ ∃ (n at_ : Nat) (part : Bool), m = at_ ∧ at_ ≤ M ∧ KrUp M (kS M (above (krN l) at_)) at_ n part ∧ n ≤ (above (krN l) at_).length ∧
    env = [(0, .slice a l.length c), (3, i64 n), (4, .bool part), (5, i64 at_)]) at_ ⟨rfl, 0, at_, false, rfl, hatM, hu0, by omega, rfl⟩ ?_
  clear hu0 hat hatM hlt hm hj
  clear at_ m
  rintro m env H2 ⟨rfl, n, k, part, hm, hkM, hu, hn, rfl⟩
  have hal : (above (krN l) k).length ≤ l.length := by
    have := List.length_filter_le (fun y => decide (k < y)) (krN l)
    rw [krN_len] at this
    exact this
  refine vs ?_
  refine Both.dec (fun hlt => ?_) (fun hlt => ?_) <;> refine vs ?_
  rotate_left
  · have hk0 : k = 0 := by omega
    subst hk0
    rw [above_all hpos] at hu
    have he := hu.end_
    rw [he]
    refine Both.dec (fun g1 => ?_) (fun g1 => ?_) <;> refine vs ?_
    · rw [if_pos (.inl (by omega))]
      exact ⟨rfl, Ext.refl _ _⟩
    · refine Both.dec (fun g2 => ?_) (fun g2 => ?_) <;> refine vs ?_
      · cases part
        · refine vs ?_
          refine Both.dec (fun g3 => ?_) (fun g3 => ?_) <;> refine vs ?_
          · rw [if_neg (by simp; omega), if_pos (by omega)]
            exact ⟨rfl, Ext.refl _ _⟩
          · omega
        · refine vs ?_
          rw [if_pos (.inr ⟨by omega, rfl⟩)]
          exact ⟨rfl, Ext.refl _ _⟩
      · refine Both.dec (fun g3 => ?_) (fun g3 => ?_) <;> refine vs ?_
        · omega
        · rw [if_neg (by omega), if_neg (by omega)]
          exact ⟨rfl, Ext.refl _ _⟩
  have hk1 : k - 1 + 1 = k := by omega
  refine LoopV.intro (fun m' env H' => H' = H2 ∧ ∃ (j : Nat), m' = l.length - j ∧ j ≤ l.length ∧
    env = [(0, .slice a l.length c), (3, i64 ((n + same (krN (l.take j)) k : Nat) : Int)), (4, .bool part), (5, i64 k), (8, i64 (under (krN (l.take j)) k)), (23, .slice a l.length c), (24, i64 l.length), (25, i64 j)]) l.length ⟨rfl, 0, by omega, by omega, rfl⟩ ?_
  rintro m' env H3 ⟨rfl, j, hm', hj, rfl⟩
  refine vs ?_
  refine Both.dec (fun hlt2 => ?_) (fun hlt2 => ?_) <;> refine vs ?_
  · obtain ⟨x, hx⟩ : ∃ x, l[j]? = some x := ⟨_, List.getElem?_eq_getElem (by omega)⟩
    have hxM := hM (one1 x).toNat (List.mem_of_getElem? (krN_at hx))
    have hx1 := one1_pos x
    obtain ⟨_, b, o, lb, rfl, hrd, hcell⟩ := RdS.num h hx
    refine ⟨⟨by omega, by omega⟩, ?_⟩
    refine v4 hrd Int.toNat_natCast Nat.mul_one hcell ?_
    have hi1 : (if 1 > x then (1 : Int) else x) = (((one1 x).toNat : Nat) : Int) := by unfold one1; split <;> omega
    have hsm : same (krN (l.take j)) k ≤ l.length := by
      have := List.countP_le_length (p := fun y => decide (y = k)) (l := krN (l.take j))
      rw [krN_len, List.length_take] at this
      exact Nat.le_trans this (by omega)
    have hs1 := same_snoc (krN (l.take j)) (one1 x).toNat k
    have hu1 := under_snoc (krN (l.take j)) (one1 x).toNat k
    rw [← krN_take hx] at hs1 hu1
    rw [hi1]
    refine Both.dec (fun g1 => ?_) (fun g1 => ?_) <;> refine vs ?_
    · rw [hi1, wrap64 (n := ((n + same (krN (l.take j)) k : Nat) : Int) + 1) (by omega) (by omega)]
      rw [if_pos (by omega)] at hs1
      rw [if_neg (by omega)] at hu1
      refine Both.dec (fun g2 => ?_) (fun g2 => ?_) <;> refine vs ?_
      · omega
      · rw [wrap64 (n := (j : Int) + 1) (by omega) (by omega)]
        exact ⟨l.length - (j + 1), by omega, trivial, j + 1, rfl, by omega, by rw [hs1, hu1, show ((n + (same (krN (l.take j)) k + 1) : Nat) : Int) = ((n + same (krN (l.take j)) k : Nat) : Int) + 1 by omega]; rfl⟩
    · rw [hi1]
      rw [if_neg (by omega), Nat.add_zero] at hs1
      refine Both.dec (fun g2 => ?_) (fun g2 => ?_) <;> refine vs ?_
      · rw [if_pos (by omega)] at hu1
        have hif : (if 1 > (if x > ((under (krN (l.take j)) k : Nat) : Int) then x else ((under (krN (l.take j)) k : Nat) : Int)) then (1 : Int) else if x > ((under (krN (l.take j)) k : Nat) : Int) then x else ((under (krN (l.take j)) k : Nat) : Int)) = ((max (under (krN (l.take j)) k) (one1 x).toNat : Nat) : Int) := by
          unfold one1
          split <;> split <;> omega
        rw [hif, wrap64 (n := (j : Int) + 1) (by omega) (by omega)]
        exact ⟨l.length - (j + 1), by omega, trivial, j + 1, rfl, by omega, by rw [hs1, hu1]; rfl⟩
      · rw [if_neg (by omega)] at hu1
        rw [wrap64 (n := (j : Int) + 1) (by omega) (by omega)]
        exact ⟨l.length - (j + 1), by omega, trivial, j + 1, rfl, by omega, by rw [hs1, hu1]; rfl⟩
  have hj2 : j = l.length := by omega
  subst hj2
  rw [List.take_length]
  have hst := above_step M (k - 1) (krN l)
  have hsl := above_len (k - 1) (krN l)
  rw [hk1] at hst hsl
  have hu2 := hu.more (same (krN l) k)
  rw [← hst] at hu2
  obtain ⟨hun, hug⟩ := under_lt (k := k) (by omega) (krN l)
  have hgap : above (krN l) (k - 1) = above (krN l) (under (krN l) k) := above_gap (by omega) fun y hy hh => by
    have := hug y hy (by omega)
    omega
  rw [hgap] at hu2 hsl
  have hal2 : (above (krN l) (under (krN l) k)).length ≤ l.length := by
    have := List.length_filter_le (fun y => decide (under (krN l) k < y)) (krN l)
    rw [krN_len] at this
    exact this
  have hn2 : n + same (krN l) k ≤ (above (krN l) (under (krN l) k)).length := by omega
  generalize n + same (krN l) k = n2 at *
  generalize under (krN l) k = nx at *
  refine LoopV.intro (fun m' env H' => H' = H3 ∧ ∃ (n at_ : Nat) (part : Bool), m' = at_ ∧ nx ≤ at_ ∧ at_ ≤ k ∧ KrUp M (kS M (above (krN l) nx)) at_ n part ∧ n ≤ (above (krN l) nx).length ∧
    env = [(0, .slice a l.length c), (3, i64 n), (4, .bool part), (5, i64 at_), (8, i64 nx)]) k ⟨rfl, n2, k, part, rfl, by omega, by omega, hu2, hn2, rfl⟩ ?_
  clear hu2 hn2 hu hn hst hsl hgap
  rintro m' env H4 ⟨rfl, n3, at_, part3, hm', hnx, hak, hu3, hn3, rfl⟩
  refine vs ?_
  refine Both.dec (fun g1 => ?_) (fun g1 => ?_) <;> refine vs ?_
  · refine Both.dec (fun g2 => ?_) (fun g2 => ?_) <;> refine vs ?_
    · have hh := hu3.half (by omega) (by omega)
      have e1 : ((n3 : Nat) : Int).tmod 2 = ((n3 % 2 : Nat) : Int) := rfl
      have e2 : ((n3 : Nat) : Int).tdiv 2 = ((n3 / 2 : Nat) : Int) := rfl
      have hat : ((at_ - 1 : Nat) : Int) = (at_ : Int) - 1 := by omega
      cases part3
      · refine v2 e1 e2 ?_
        rw [if_neg (by decide)]
        refine v2 e1 e2 ?_
        rw [if_neg (by decide), wrap64 (n := ((n3 / 2 : Nat) : Int)) (by omega) (by omega)]
        refine vs ?_
        rw [wrap64 (n := (at_ : Int) - 1) (by omega) (by omega)]
        have hb : decide (((n3 % 2 : Nat) : Int) = 1) = (false || n3 % 2 == 1) := by
          rw [Bool.false_or]
          rcases (show n3 % 2 = 0 ∨ n3 % 2 = 1 by omega) with h | h <;> rw [h] <;> rfl
        exact ⟨at_ - 1, by omega, trivial, n3 / 2, at_ - 1, _, rfl, by omega, by omega, hh, by omega, by rw [hb, hat]⟩
      · refine v2 e1 e2 ?_
        rw [if_neg (by decide), wrap64 (n := ((n3 / 2 : Nat) : Int)) (by omega) (by omega)]
        refine vs ?_
        rw [wrap64 (n := (at_ : Int) - 1) (by omega) (by omega)]
        exact ⟨at_ - 1, by omega, trivial, n3 / 2, at_ - 1, _, rfl, by omega, by omega, hh, by omega, by rw [hat]; rfl⟩
    · have h0 : n3 = 0 := by omega
      subst h0
      exact ⟨nx, by omega, trivial, 0, nx, part3, rfl, by omega, hu3.down hnx, by omega, rfl⟩
  · have h0 : at_ = nx := by omega
    subst h0
    exact ⟨at_, by omega, trivial, n3, at_, part3, rfl, by omega, hu3, hn3, rfl⟩
end Go.Proofs.YtjlnnljohemifaaGreat
