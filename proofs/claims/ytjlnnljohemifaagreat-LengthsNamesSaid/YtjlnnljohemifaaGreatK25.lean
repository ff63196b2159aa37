/-
  Texts put behind each other by a program: HufC, HufS, Alive26, LengthsNames.
-/
import Derived.Test.YtjlnnljohemifaaGreatK3
import Derived.Test.YtjlnnljohemifaaGreatK17
import Derived.Test.YtjlnnljohemifaaGreatK22
import Derived.Test.YtjlnnljohemifaaGreatK23
import Derived.Test.YtjlnnljohemifaaGreatK24
set_option linter.unusedVariables false
set_option linter.unusedSimpArgs false
namespace Go.Proofs.YtjlnnljohemifaaGreat
open Go Go.Vc
theorem mul64_spec (H : Hp) (x y : Nat) (hx : x < 18446744073709551616) (hy : y < 18446744073709551616) : CallH Tryz.prog n_math_bits_Mul64 [u64 (x : Int), u64 (y : Int)] H fun v H' => Post (v = .tuple [u64 ((x * y / 18446744073709551616 : Nat) : Int), u64 ((x * y % 18446744073709551616 : Nat) : Int)].toArray ∧ H' = H) := fun w hw => by
  refine (Tryz.bits_Mul64 x y hx hy w).mono ?_
  rintro e w' ⟨rfl, rfl⟩
  exact ⟨_, rfl, Same.refl _, rfl, hw⟩
def CanC (ws ls : List Int) : Prop := ws.length = ls.length ∧ ws.length ≤ 4096 ∧ ∀ i, i < ws.length → 1 ≤ ws.getD i 0 ∧ 0 ≤ ls.getD i 0 ∧ ls.getD i 0 ≤ 4096
instance (ws ls : List Int) : Decidable (CanC ws ls) := by unfold CanC; exact inferInstance
def costZ (ws ls : List Int) : Int := sumI ws.length fun i => ws.getD i 0 * ls.getD i 0
def costA (ws ls : List Int) : Int × Nat := if CanC ws ls then valS (costZ ws ls) else (0, 0)
theorem getD_at {l : List Int} {i : Nat} {x : Int} (h : l[i]? = some x) : l.getD i 0 = x := by rw [List.getD_eq_getElem?_getD, h]; rfl
set_option maxRecDepth 100000 in
set_option maxHeartbeats 4000000 in
theorem lengths_Cost_spec {H : Hp} {a a' : Option Addr} {c c' : Nat} {ws ls : List Int} (h : RdS H 1 (.slice a ws.length c) ws.length (ws.map i64)) (h' : RdS H 1 (.slice a' ls.length c') ls.length (ls.map i64)) (hb : ∀ x ∈ ws, x ≤ 9223372036854775807) :
    CallH Tryz.prog n_lengths_Cost [.slice a ws.length c, .slice a' ls.length c'] H fun v H' => Post (v = .tuple [sumV (costA ws ls), .bool (decide (CanC ws ls))].toArray ∧ Fresh H H') := by
  refine ccT d_lengths_Cost ⟨rfl, ?_⟩
  refine v1 s_lengths_Cost.eq_1 ?_
  have f0 : Fresh H (H.new 36 [i64 0, u64 0]) := (Ext.refl _ _).new _ _
  have o0 : (H.new 36 [i64 0, u64 0]).own H.size = some [i64 0, u64 0] := own_new _ _ _
  have z0 : (H.new 36 [i64 0, u64 0]).size = H.size + 1 := size_new _ _ _
  generalize H.new 36 [i64 0, u64 0] = H0 at *
  have hbad : ¬ CanC ws ls → (Value.tuple [sumV (0, 0), .bool false].toArray = .tuple [sumV (costA ws ls), .bool (decide (CanC ws ls))].toArray) := by
    intro hn
    unfold costA
    rw [if_neg hn, decide_eq_false hn]
  have o0w := own_wr_same (l := [i64 0, u64 0]) o0
  have f0w : Fresh H (H0.wr H.size [i64 0, u64 0]) := f0.then ((Ext.refl (fun z => z = H.size) _).wr (fun _ => rfl) _) (fun z hz => by omega)
  refine Both.dec (fun h1 => ?_) (fun h1 => ?_) <;> refine v1 decide_true ?_
  rotate_left
  · have hn : ¬ CanC ws ls := fun hc => by have := hc.1; omega
    refine v2 o0 (rd_of_own o0w) ?_
    exact ⟨hbad hn, f0w⟩
  have h1 : ws.length = ls.length := by omega
  refine Both.dec (fun h2 => ?_) (fun h2 => ?_) <;> refine v1 decide_true ?_
  · have hn : ¬ CanC ws ls := fun hc => by have := hc.2.1; omega
    refine v2 o0 (rd_of_own o0w) ?_
    exact ⟨hbad hn, f0w⟩
  have hn4 : ws.length ≤ 4096 := by omega
  have f1 : Fresh H0 (H0.new 36 [i64 0, u64 0]) := (Ext.refl _ _).new _ _
  have p1 : (H0.new 36 [i64 0, u64 0]).own (H.size + 1) = some [i64 0, u64 0] := by rw [← z0]; exact own_new _ _ _
  have g1 := f0.trans f1
  have o1 := f1.own o0 (fun h => h)
  rw [z0]
  generalize H0.new 36 [i64 0, u64 0] = H1 at *
  refine LoopV.intro (fun mm env H' => ∃ (j s : Nat), mm = ws.length - j ∧ j ≤ ws.length ∧ (s : Int) = sumI j (fun i => ws.getD i 0 * ls.getD i 0) ∧ s ≤ j * 37778931862957161709568 ∧ (∀ i, i < j → 1 ≤ ws.getD i 0 ∧ 0 ≤ ls.getD i 0 ∧ ls.getD i 0 ≤ 4096) ∧ Ext (fun z => z = H.size + 1) H1 H' ∧ H'.own (H.size + 1) = some [i64 ((s / 18446744073709551616 : Nat) : Int), u64 ((s % 18446744073709551616 : Nat) : Int)] ∧
    env = [(1, .slice a' ls.length c'), (4, ptr H.size), (6, ptr (H.size + 1)), (24, .slice a ws.length c), (25, i64 ws.length), (26, i64 j)]) ws.length ⟨0, 0, by omega, by omega, rfl, by omega, (fun i hi => by omega), Ext.refl _ _, p1, rfl⟩ ?_
  rintro mm env H2 ⟨j, s, rfl, hj, hs, hsb, hok, e2, p2, rfl⟩
  have g2 : Fresh H H2 := g1.then e2 (fun z hz => by omega)
  have o2 := e2.own o1 (fun e => by omega)
  have o2w := own_wr_same (l := [i64 0, u64 0]) o2
  have f2w : Fresh H (H2.wr H.size [i64 0, u64 0]) := g2.then ((Ext.refl (fun z => z = H.size) _).wr (fun _ => rfl) _) (fun z hz => by omega)
  refine vs ?_
  refine Both.dec (fun hlt => ?_) (fun hlt => ?_) <;> refine vs ?_
  · have hj2 : j < ws.length := by omega
    obtain ⟨x, hx⟩ : ∃ x, ws[j]? = some x := ⟨_, List.getElem?_eq_getElem hj2⟩
    obtain ⟨y, hy⟩ : ∃ y, ls[j]? = some y := ⟨_, List.getElem?_eq_getElem (by omega)⟩
    have hxm := hb x (List.mem_of_getElem? hx)
    have hxd := getD_at hx
    have hyd := getD_at hy
    obtain ⟨_, b, o, lb, rfl, hrd, hcell⟩ := RdS.num (h.fresh g2) hx
    obtain ⟨_, b', o', lb', rfl, hrd', hcell'⟩ := RdS.num (h'.fresh g2) hy
    refine ⟨⟨by omega, by omega⟩, ?_⟩
    refine v4 hrd Int.toNat_natCast Nat.mul_one hcell ?_
    refine Both.dec (fun h3 => ?_) (fun h3 => ?_) <;> refine v1 decide_true ?_
    · have hn : ¬ CanC ws ls := fun hc => by have := hc.2.2 j hj2; omega
      refine v2 o2 (rd_of_own o2w) ?_
      exact ⟨hbad hn, f2w⟩
    refine ⟨⟨by omega, by omega⟩, ?_⟩
    refine v4 hrd' Int.toNat_natCast Nat.mul_one hcell' ?_
    refine Both.dec (fun h4 => ?_) (fun h4 => ?_) <;> refine v1 decide_true ?_
    · have hn : ¬ CanC ws ls := fun hc => by have := hc.2.2 j hj2; omega
      refine v2 o2 (rd_of_own o2w) ?_
      exact ⟨hbad hn, f2w⟩
    refine ⟨⟨by omega, by omega⟩, ?_⟩
    refine v4 hrd' Int.toNat_natCast Nat.mul_one hcell' ?_
    refine Both.dec (fun h5 => ?_) (fun h5 => ?_) <;> refine v1 decide_true ?_
    · have hn : ¬ CanC ws ls := fun hc => by have := hc.2.2 j hj2; omega
      refine v2 o2 (rd_of_own o2w) ?_
      exact ⟨hbad hn, f2w⟩
    refine ⟨⟨by omega, by omega⟩, ?_⟩
    refine v4 hrd' Int.toNat_natCast Nat.mul_one hcell' ?_
    obtain ⟨X, rfl⟩ : ∃ X : Nat, x = (X : Int) := ⟨x.toNat, by omega⟩
    obtain ⟨Y, rfl⟩ : ∃ Y : Nat, y = (Y : Int) := ⟨y.toNat, by omega⟩
    rw [wrapU64 (n := (X : Int)) (by omega) (by omega), wrapU64 (n := (Y : Int)) (by omega) (by omega)]
    refine (mul64_spec H2 X Y (by omega) (by omega)).mono ?_
    rintro _ H2' ⟨rfl, e⟩
    obtain rfl := e.symm
    have hP : X * Y ≤ 9223372036854775807 * 4096 := Nat.mul_le_mul (by omega) (by omega)
    have hsum : sumI (j + 1) (fun i => ws.getD i 0 * ls.getD i 0) = ((s + X * Y : Nat) : Int) := by
      rw [sumI_succ, ← hs, hxd, hyd]
      push_cast
      rfl
    generalize X * Y = P at *
    have hsj : s ≤ 4096 * 37778931862957161709568 := Nat.le_trans hsb (Nat.mul_le_mul_right _ (by omega))
    have hsj1 : s + P ≤ (j + 1) * 37778931862957161709568 := by rw [Nat.add_mul]; omega
    refine v1 (rd_of_own p2) ?_
    refine ExtV.mk (fun w => add64_run (s % 18446744073709551616) (P % 18446744073709551616) 0 (by omega) (by omega) (by omega) w) ?_
    have hhi : ((s / 18446744073709551616 : Nat) : Int) + (((P / 18446744073709551616 : Nat) : Int) + (((s % 18446744073709551616 + P % 18446744073709551616 + 0) / 18446744073709551616 : Nat) : Int)) = (((s + P) / 18446744073709551616 : Nat) : Int) := by omega
    have hlo : (s % 18446744073709551616 + P % 18446744073709551616 + 0) % 18446744073709551616 = (s + P) % 18446744073709551616 := by omega
    refine v2 (rd_of_own p2) p2 ?_
    rw [wrapU64 (n := ((P / 18446744073709551616 : Nat) : Int) + (((s % 18446744073709551616 + P % 18446744073709551616 + 0) / 18446744073709551616 : Nat) : Int)) (by omega) (by omega), wrap64 (n := ((P / 18446744073709551616 : Nat) : Int) + (((s % 18446744073709551616 + P % 18446744073709551616 + 0) / 18446744073709551616 : Nat) : Int)) (by omega) (by omega), hhi, hlo, wrap64 (n := (((s + P) / 18446744073709551616 : Nat) : Int)) (by omega) (by omega), wrap64 (n := (j : Int) + 1) (by omega) (by omega)]
    have e3 : Ext (fun z => z = H.size + 1) H2 (H2.wr (H.size + 1) [i64 (((s + P) / 18446744073709551616 : Nat) : Int), u64 (((s + P) % 18446744073709551616 : Nat) : Int)]) := (Ext.refl (fun z => z = H.size + 1) _).wr (fun _ => rfl) _
    refine ⟨ws.length - (j + 1), by omega, j + 1, s + P, rfl, by omega, hsum.symm, hsj1, fun i hi => ?_, e2.trans e3, own_wr_same p2, rfl⟩
    by_cases he : i = j
    · rw [he, hxd, hyd]; omega
    · exact hok i (by omega)
  · have hj2 : j = ws.length := by omega
    subst hj2
    have hc : CanC ws ls := ⟨h1, hn4, hok⟩
    have o3w := own_wr_same (l := [i64 ((s / 18446744073709551616 : Nat) : Int), u64 ((s % 18446744073709551616 : Nat) : Int)]) o2
    refine v3 (rd_of_own p2) o2 (rd_of_own o3w) ?_
    have hv : costA ws ls = (((s / 18446744073709551616 : Nat) : Int), s % 18446744073709551616) := by
      unfold costA valS costZ
      rw [if_pos hc, ← hs]
      refine Prod.ext ?_ ?_
      · simp only; omega
      · simp only; omega
    rw [hv, decide_eq_true hc]
    refine ⟨rfl, g2.then ((Ext.refl (fun z => z = H.size) _).wr (fun _ => rfl) _) (fun z hz => by omega)⟩
theorem lenW_in {ws : List Int} (h : FineW ws) : ∀ x ∈ lenW ws, 1 ≤ x ∧ x ≤ 4096 := by
  have h1 := h.n1
  have h2 := h.n2
  intro x hx
  unfold lenW at hx
  split at hx
  · have : x = 1 := by simpa using hx
    omega
  · obtain ⟨n, hn, rfl⟩ := List.mem_map.1 hx
    have := hufL_le h1 n hn
    have := hufL_pos (by omega) n hn
    omega
theorem canC_of {ws ls : List Int} (h : FineW ws) (hl : ws.length = ls.length) (ha : ∀ x ∈ ls, 1 ≤ x ∧ x ≤ 4096) : CanC ws ls := by
  refine ⟨hl, h.n2, fun i hi => ?_⟩
  have e1 : ws[i]? = some ws[i] := List.getElem?_eq_getElem hi
  have e2 : ls[i]? = some (ls[i]'(by omega)) := List.getElem?_eq_getElem (by omega)
  rw [getD_at e1, getD_at e2]
  have h1 := h.pos _ (List.mem_of_getElem? e1)
  have h2 := ha _ (List.mem_of_getElem? e2)
  omega
theorem canC_len {ws : List Int} (h : FineW ws) : CanC ws (lenW ws) := canC_of h (lenW_len ws).symm (lenW_in h)
def LeastP (ws ls : List Int) : Prop := FineW ws ∧ ws.length = ls.length ∧ (∀ x ∈ ls, 1 ≤ x ∧ x ≤ 4096) ∧ krS 4096 (krN ls) ≤ 0 ∧ costZ ws ls = costZ ws (lenW ws)
instance (ws ls : List Int) : Decidable (LeastP ws ls) := by unfold LeastP; exact inferInstance
theorem krN_le {ls : List Int} (ha : ∀ x ∈ ls, x ≤ 4096) : ∀ n ∈ krN ls, n ≤ 4096 := by
  intro n hn
  unfold krN one1 at hn
  obtain ⟨x, hx, rfl⟩ := List.mem_map.1 hn
  have := ha x hx
  omega
theorem eqSum (a b c d : Int) : eqVs [(0, none, Shape.int), (1, none, Shape.int)] [i64 a, u64 b] [i64 c, u64 d] = some (decide (a = c ∧ b = d)) := by
  simp only [eqV, eqVs, partL_none, List.getElem?_cons_zero, List.getElem?_cons_succ, simpleEq, if_pos rfl]
  by_cases e : a = c
  · by_cases e2 : b = d <;> simp [e, e2]
  · simp [e]
theorem least_in_spec (H : Hp) (x : Int) : CallH Tryz.prog n_lengths_Least_1 [i64 x] H fun v H' => Post (v = .bool (decide (x < 1 ∨ 4096 < x)) ∧ H' = H) := by
  refine ccT d_lengths_Least_1 ⟨rfl, ?_⟩
  refine v1 s_lengths_Least_1.eq_1 ?_
  refine Both.dec (fun h => ?_) (fun h => ?_) <;> refine vs ?_
  · rw [decide_eq_true (.inl h)]; exact ⟨rfl, rfl⟩
  · refine ⟨congrArg Value.bool (decide_eq_decide.2 (by omega)), rfl⟩
set_option maxRecDepth 100000 in
set_option maxHeartbeats 4000000 in
theorem lengths_Least_spec {H : Hp} (hop : OpenN 1 0) {a a' : Option Addr} {c c' : Nat} {ws ls : List Int} (h : RdS H 1 (.slice a ws.length c) ws.length (ws.map i64)) (h' : RdS H 1 (.slice a' ls.length c') ls.length (ls.map i64)) (hb : ∀ x ∈ ws, x ≤ 9223372036854775807) :
    CallH Tryz.prog n_lengths_Least [.slice a ws.length c, .slice a' ls.length c'] H fun v H' => Post (v = .bool (decide (LeastP ws ls)) ∧ Fresh H H') := by
  refine ccT d_lengths_Least ⟨rfl, ?_⟩
  refine v1 s_lengths_Least.eq_1 ?_
  refine (lengths_fine_spec h hb).mono ?_
  rintro _ H1' ⟨rfl, e⟩
  obtain rfl := e.symm
  refine vs ?_
  by_cases hF : FineW ws
  rotate_left
  · rw [decide_eq_false hF]
    refine v1 decide_true ?_
    rw [decide_eq_false (fun hl : LeastP ws ls => hF hl.1)]
    exact ⟨rfl, Ext.refl _ _⟩
  rw [decide_eq_true hF]
  refine v1 decide_true ?_
  refine Both.dec (fun h1 => ?_) (fun h1 => ?_) <;> refine v1 decide_true ?_
  rotate_left
  · rw [decide_eq_false (fun hl : LeastP ws ls => by have := hl.2.1; omega)]
    exact ⟨rfl, Ext.refl _ _⟩
  have h1 : ws.length = ls.length := by omega
  have hn2 := hF.n2
  refine (ContainsFuncI_spec n_lengths_Least_1 [] (fun x => decide (x < 1 ∨ 4096 < x)) (fun H' => H' = H) rfl (fun H' e => e ▸ h') (by kernel_rfl) (fun H' x _ e => (least_in_spec H' x).mono fun v H'' hp => ⟨hp.1, hp.2.trans e⟩) (by omega)).mono ?_
  rintro _ H1' ⟨rfl, e⟩
  obtain rfl := e.symm
  refine vs ?_
  by_cases hany : ∀ x ∈ ls, 1 ≤ x ∧ x ≤ 4096
  rotate_left
  · have ha : (ls.any fun x => decide (x < 1 ∨ 4096 < x)) = true := by
      apply Classical.byContradiction
      intro hc
      rw [Bool.not_eq_true, List.any_eq_false] at hc
      exact hany fun x hx => by have := hc x hx; simp at this; omega
    rw [ha]
    refine v1 decide_true ?_
    rw [decide_eq_false (fun hl : LeastP ws ls => hany hl.2.2.1)]
    exact ⟨rfl, Ext.refl _ _⟩
  have ha : (ls.any fun x => decide (x < 1 ∨ 4096 < x)) = false := by
    rw [List.any_eq_false]
    intro x hx
    have := hany x hx
    simp
    omega
  rw [ha]
  refine v1 decide_true ?_
  obtain ⟨kv, hkv⟩ : ∃ kv, kv = krS 4096 (krN ls) := ⟨_, rfl⟩
  have hK := lengths_Kraft_spec h' (by omega) (krN_le fun x hx => (hany x hx).2) (by omega)
  rw [← hkv] at hK
  refine hK.mono ?_
  clear hK
  rintro _ H2 ⟨rfl, f2⟩
  refine vs ?_
  refine Both.dec (fun h3 => ?_) (fun h3 => ?_) <;> refine v1 decide_true ?_
  · rw [decide_eq_false (fun hl : LeastP ws ls => by have h9 := hl.2.2.2.1; rw [← hkv] at h9; omega)]
    exact ⟨rfl, f2⟩
  refine (lengths_Lengths_spec 1 0 (fun _ => hop) (h.fresh f2) hb).mono ?_
  have hA : lenA 1 0 ws = (0, lenW ws) := by
    unfold lenA
    rw [if_neg (by rw [chk0 (by unfold FineK; omega)]; omega), if_pos hF]
  rintro _ H3 ⟨sv, rfl, ⟨a3, c3, rfl, hr3⟩, f3⟩
  rw [hA] at hr3 ⊢
  have g3 := f2.trans f3
  refine vs ?_
  refine (lengths_Cost_spec (h.fresh g3) (h'.fresh g3) hb).mono ?_
  rintro _ H4 ⟨rfl, f4⟩
  have g4 := g3.trans f4
  rw [decide_eq_true (canC_of hF h1 hany)]
  generalize hA1 : costA ws ls = A1
  simp (disch := (first | omega | (simp only [Zs] <;> omega) | fail)) only [go_sem, ↓reduceIte, Zv, sumV]
  obtain ⟨f5, b5, z5⟩ := zst H4 36 [i64 0, u64 0] [i64 A1.1, u64 A1.2]
  generalize hB : H4.size = bb at *
  generalize (H4.new 36 [i64 0, u64 0]).wr bb [i64 A1.1, u64 A1.2] = H5 at *
  have g5 := g4.trans f5
  refine (lengths_Cost_spec (h.fresh g5) ((hr3.fresh f4).fresh f5) hb).mono ?_
  rintro _ H6 ⟨rfl, f6⟩
  have g6 := g5.trans f6
  have b6 := f6.own b5 (fun h => h)
  rw [decide_eq_true (canC_len hF)]
  generalize hA2 : costA ws (lenW ws) = A2
  simp (disch := (first | omega | (simp only [Zs] <;> omega) | fail)) only [go_sem, ↓reduceIte, Zv, sumV]
  obtain ⟨f7, b7, z7⟩ := zst H6 36 [i64 0, u64 0] [i64 A2.1, u64 A2.2]
  have b7' := f7.own b6 (fun h => h)
  generalize hC : H6.size = cc at *
  generalize (H6.new 36 [i64 0, u64 0]).wr cc [i64 A2.1, u64 A2.2] = H7 at *
  refine v4 decide_true (rd_of_own b7) (rd_of_own b7') eqSum ?_
  refine ⟨?_, g6.trans f7⟩
  refine congrArg Value.bool (decide_eq_decide.2 ?_)
  have e1 : A1 = valS (costZ ws ls) := by rw [← hA1]; unfold costA; rw [if_pos (canC_of hF h1 hany)]
  have e2 : A2 = valS (costZ ws (lenW ws)) := by rw [← hA2]; unfold costA; rw [if_pos (canC_len hF)]
  constructor
  · rintro ⟨x1, x2⟩
    have : A1 = A2 := Prod.ext (by omega) (by omega)
    rw [e1, e2] at this
    exact ⟨hF, h1, hany, by rw [← hkv]; omega, valS_inj this⟩
  · intro hl
    have := hl.2.2.2.2
    rw [← this, ← e1] at e2
    rw [e2]
    exact ⟨rfl, rfl⟩
theorem krN_huf {ws : List Int} (h1 : 2 ≤ ws.length) : krN (lenW ws) = hufL ws := by
  unfold lenW
  rw [if_neg (by omega)]
  unfold krN
  rw [List.map_map]
  conv => rhs; rw [← List.map_id (hufL ws)]
  refine List.map_congr_left fun n hn => ?_
  have := hufL_pos h1 n hn
  show (one1 (n : Int)).toNat = n
  unfold one1
  omega
theorem krS_len {ws : List Int} (hF : FineW ws) {M : Nat} (hM : ∀ n ∈ krN (lenW ws), n ≤ M) : krS M (krN (lenW ws)) ≤ 0 ∧ (2 ≤ ws.length → krS M (krN (lenW ws)) = 0) := by
  have h1 := hF.n1
  by_cases h2 : 2 ≤ ws.length
  · have : krS M (krN (lenW ws)) = 0 := by
      rw [krN_huf h2] at hM ⊢
      rw [krS_any (M' := ws.length) hM (fun n hn => by have := hufL_le h1 n hn; omega)]
      unfold krS
      rw [hufL_room h1, if_neg (by omega), if_pos rfl]
    exact ⟨by omega, fun _ => this⟩
  · refine ⟨?_, fun h => absurd h h2⟩
    have e : krN (lenW ws) = [1] := by unfold lenW; rw [if_pos (by omega)]; rfl
    rw [e] at hM ⊢
    rw [krS_any (M' := 1) hM (by simp)]
    decide
theorem least_len {ws : List Int} (hF : FineW ws) : LeastP ws (lenW ws) := ⟨hF, (lenW_len ws).symm, lenW_in hF, (krS_len hF (krN_le fun x hx => (lenW_in hF x hx).2)).1, rfl⟩
theorem ex_fine : FineW [1, 1, 2] := by decide
theorem ex_len : lenW [1, 1, 2] = [2, 2, 1] := by decide
theorem ex_lenA : lenA 5 0 [1, 1, 2] = (0, [2, 2, 1]) := by
  unfold lenA
  rw [if_neg (by rw [chk0 (by unfold FineK; omega)]; omega), if_pos ex_fine, ex_len]
theorem ex_least : LeastP [1, 1, 2] [2, 2, 1] := by
  have := least_len ex_fine
  rwa [ex_len] at this
theorem RdS.lit3 (H : Hp) (T : TypeId) (x y z : Int) {b : Nat} (hb : b = H.size) : Fresh H (H.new T [i64 x, i64 y, i64 z]) ∧ RdS (H.new T [i64 x, i64 y, i64 z]) 1 (.slice (some ⟨b, 0, none⟩) 3 3) 3 ([x, y, z].map i64) :=
  ⟨(Ext.refl _ _).new _ _, (Sl.lit_at (n := 3) (xs := [i64 x, i64 y, i64 z]) rfl hb).rd⟩
set_option maxHeartbeats 2000000 in
theorem law26_alive_spec (h1 : OpenN 1 0) (h5 : OpenN 5 0) (H : Hp) : CallH Tryz.prog n_law26_lengthsAlive [] H fun v H' => Post (v = .bool true ∧ Fresh H H') := by
  refine ccT d_law26_lengthsAlive ⟨rfl, ?_⟩
  refine v1 s_law26_lengthsAlive.eq_1 ?_
  obtain ⟨f1, r1⟩ := RdS.lit3 H 2 1 1 2 rfl
  generalize H.new 2 [i64 1, i64 1, i64 2] = H1 at *
  refine (lengths_Lengths_spec 5 0 (fun _ => h5) (ws := [1, 1, 2]) r1 (by simp)).mono ?_
  rw [ex_lenA]
  rintro _ H2 ⟨sv, rfl, ⟨a, c, rfl, r2⟩, f2⟩
  have g2 := f1.trans f2
  refine v1 decide_true ?_
  obtain ⟨f3, r3⟩ := RdS.lit3 H2 3 2 2 1 rfl
  generalize H2.new 3 [i64 2, i64 2, i64 1] = H3 at *
  have g3 := g2.trans f3
  have r2 := r2.fresh f3
  refine (ref09_Same_spec (xs := [2, 2, 1]) (ys := [2, 2, 1]) r2 r3 (by simp)).mono ?_
  rintro _ H3' ⟨rfl, e⟩
  obtain rfl := e
  refine v1 decide_true ?_
  refine (lengths_Kraft_spec (l := [2, 2, 1]) (M := 2) r2 (by simp) (by decide) (by omega)).mono ?_
  rintro _ H4 ⟨rfl, f4⟩
  rw [show krS 2 (krN [2, 2, 1]) = 0 by decide]
  have g4 := g3.trans f4
  refine v1 decide_true ?_
  obtain ⟨f5, r5⟩ := RdS.lit3 H4 2 1 1 2 rfl
  generalize H4.new 2 [i64 1, i64 1, i64 2] = H5 at *
  refine (lengths_Least_spec h1 (ws := [1, 1, 2]) (ls := [2, 2, 1]) r5 ((r2.fresh f4).fresh f5) (by simp)).mono ?_
  rintro _ H6 ⟨rfl, f6⟩
  rw [decide_eq_true ex_least]
  refine vs ?_
  exact ⟨rfl, (g4.trans f5).trans f6⟩
theorem lenA_bad {kd dd : Int} {ws : List Int} (hk : FineK kd dd) (h : ¬ FineW ws) : lenA kd dd ws = (201, []) := by unfold lenA; rw [if_neg (by rw [chk0 hk]; omega), if_neg h]
theorem lenA_ok {kd dd : Int} {ws : List Int} (hk : FineK kd dd) (h : FineW ws) : lenA kd dd ws = (0, lenW ws) := by unfold lenA; rw [if_neg (by rw [chk0 hk]; omega), if_pos h]
theorem fineK1 : FineK 1 0 := by decide
theorem RdS.nilI (H : Hp) : RdS H 1 (.slice none ([] : List Int).length 0) ([] : List Int).length (([] : List Int).map i64) := ⟨rfl, .inl ⟨rfl, none, 0, rfl⟩⟩
theorem RdS.lit2 (H : Hp) (T : TypeId) (x y : Int) {b : Nat} (hb : b = H.size) : Fresh H (H.new T [i64 x, i64 y]) ∧ RdS (H.new T [i64 x, i64 y]) 1 (.slice (some ⟨b, 0, none⟩) 2 2) 2 ([x, y].map i64) :=
  ⟨(Ext.refl _ _).new _ _, (Sl.lit_at (n := 2) (xs := [i64 x, i64 y]) rfl hb).rd⟩
theorem RdS.lit1 (H : Hp) (T : TypeId) (x : Int) {b : Nat} (hb : b = H.size) : Fresh H (H.new T [i64 x]) ∧ RdS (H.new T [i64 x]) 1 (.slice (some ⟨b, 0, none⟩) 1 1) 1 ([x].map i64) :=
  ⟨(Ext.refl _ _).new _ _, (Sl.lit_at (n := 1) (xs := [i64 x]) rfl hb).rd⟩
theorem sum_ones (n : Nat) : (List.replicate n (1 : Int)).sum = n := by
  induction n with
  | zero => rfl
  | succ n ih => rw [List.replicate_succ, List.sum_cons, ih]; omega
theorem fine_ones {n : Nat} (h1 : 1 ≤ n) (h2 : n ≤ 4096) : FineW (List.replicate n 1) := ⟨by simpa using h1, by simpa using h2, fun x hx => by rw [List.eq_of_mem_replicate hx]; omega, by rw [sum_ones]; omega⟩
theorem len_ones : lenW (List.replicate 4096 1) = List.replicate 4096 12 := by
  rw [List.eq_replicate_iff]
  refine ⟨by rw [lenW_len, List.length_replicate], fun x hx => ?_⟩
  unfold lenW at hx
  rw [if_neg (by rw [List.length_replicate]; omega)] at hx
  obtain ⟨n, hn, rfl⟩ := List.mem_map.1 hx
  rw [hufL_even (m := 12) (by rw [List.length_replicate]) (fun w hw => List.eq_of_mem_replicate hw) n hn]
  rfl
theorem ones_at {n j : Nat} (hj : j < n) : ((List.replicate j (1 : Int) ++ List.replicate (n - j) 0).map i64).set j (i64 1) = (List.replicate (j + 1) (1 : Int) ++ List.replicate (n - (j + 1)) 0).map i64 := by
  rw [← List.map_set, List.set_append, List.length_replicate, if_neg (by omega), Nat.sub_self, show n - j = (n - (j + 1)) + 1 by omega, List.replicate_succ, List.set_cons_zero, List.replicate_succ' (n := j), List.append_assoc]
  rfl
set_option maxRecDepth 100000 in
set_option maxHeartbeats 400000 in
theorem law26_LengthsNames_args (Hh : Hp) : CallH Tryz.prog n_law26_LengthsNames [] Hh fun v H' => Post (v = .bool true ∧ Fresh Hh H') := by
  refine ccT d_law26_LengthsNames ⟨rfl, ?_⟩
  refine v1 s_law26_LengthsNames.eq_1 ?_
  obtain ⟨f0, o0, z0⟩ := zst Hh 23 [i64 0, i64 0] [i64 1, i64 0]
  generalize (Hh.new 23 [i64 0, i64 0]).wr Hh.size [i64 1, i64 0] = H0 at *
  refine v1 (rd_of_own o0) ?_
  refine (lengths_Lengths_spec 1 0 (fun _ => open_one) (RdS.nilI H0) (by simp)).mono ?_
  rw [lenA_bad fineK1 (by decide)]
  rintro _ H1 ⟨sv, rfl, _, f1⟩
  have g1 := f0.trans f1
  have o1 := f1.own o0 (fun h => h)
  refine v1 (rd_of_own o1) ?_
  obtain ⟨f2, r2⟩ := RdS.lit2 H1 2 1 0 rfl
  generalize H1.new 2 [i64 1, i64 0] = H2 at *
  refine (lengths_Lengths_spec 1 0 (fun _ => open_one) (ws := [1, 0]) r2 (by simp)).mono ?_
  rw [lenA_bad fineK1 (by decide)]
  rintro _ H3 ⟨sv, rfl, _, f3⟩
  have g3 := (g1.trans f2).trans f3
  have o3 := f3.own (f2.own o1 (fun h => h)) (fun h => h)
  refine v1 (rd_of_own o3) ?_
  obtain ⟨f4, r4⟩ := RdS.lit2 H3 2 9223372036854775807 1 rfl
  generalize H3.new 2 [i64 9223372036854775807, i64 1] = H4 at *
  refine (lengths_Lengths_spec 1 0 (fun _ => open_one) (ws := [9223372036854775807, 1]) r4 (by simp)).mono ?_
  rw [lenA_bad fineK1 (by decide)]
  rintro _ H5 ⟨sv, rfl, _, f5⟩
  have g5 := (g3.trans f4).trans f5
  have o5 := f5.own (f4.own o3 (fun h => h)) (fun h => h)
  refine vs ?_
  refine (lengths_Lengths_spec 0 0 (fun h => absurd h (by decide)) (RdS.nilI H5) (by simp)).mono ?_
  rw [show lenA 0 0 [] = (21, []) by decide]
  rintro _ H6 ⟨sv, rfl, _, f6⟩
  have g6 := g5.trans f6
  have o6 := f6.own o5 (fun h => h)
  refine v1 (rd_of_own o6) ?_
  obtain ⟨f7, r7⟩ := RdS.lit1 H6 2 7 rfl
  generalize H6.new 2 [i64 7] = H7 at *
  refine (lengths_Lengths_spec 1 0 (fun _ => open_one) (ws := [7]) r7 (by simp)).mono ?_
  rw [lenA_ok fineK1 (by decide), show lenW [7] = [1] by decide]
  rintro _ H8 ⟨sv8, rfl, l8, f8⟩
  have g8 := (g6.trans f7).trans f8
  have o8 := f8.own (f7.own o6 (fun h => h)) (fun h => h)
  refine vs ?_
  refine ⟨by omega, ?_⟩
  refine vs ?_
  obtain ⟨n, hn⟩ : ∃ n : Nat, n = 4097 := ⟨_, rfl⟩
  rw [show Int.toNat 4097 = n from hn.symm]
  have f9 : Fresh H8 (H8.new 2 (padZ [i64 0] n)) := (Ext.refl _ _).new _ _
  have s9 : Sl (H8.new 2 (padZ [i64 0] n)) 1 (.slice (some ⟨H8.size, 0, none⟩) n n) n ((List.replicate 0 (1 : Int) ++ List.replicate (n - 0) 0).map i64) (some H8.size) := by
    rw [padZ_int]
    exact Sl.lit H8 _ 1 n _ (by simp)
  have g9 := g8.trans f9
  have o9 := f9.own o8 (fun h => h)
  have hz8 := g8.size
  have ho8 := own_lt o8
  generalize hB : H8.size = bb at *
  generalize H8.new 2 (padZ [i64 0] n) = H9 at *
  refine LoopV.intro (fun mm env H' => ∃ j : Nat, mm = n - j ∧ j ≤ n ∧ Ext (fun z => z = bb) H9 H' ∧ Sl H' 1 (.slice (some ⟨bb, 0, none⟩) n n) n ((List.replicate j (1 : Int) ++ List.replicate (n - j) 0).map i64) (some bb) ∧
    env = [(1, ptr Hh.size), (3, i64 201), (5, i64 201), (7, i64 201), (9, i64 21), (10, sv8), (11, i64 0), (12, .slice (some ⟨bb, 0, none⟩) n n), (49, i64 n), (50, i64 j)]) n ⟨0, by omega, by omega, Ext.refl _ _, s9, rfl⟩ ?_
  clear s9
  rintro mm env H10 ⟨j, rfl, hj, e10, s10, rfl⟩
  refine vs ?_
  refine Both.dec (fun hlt => ?_) (fun hlt => ?_) <;> refine vs ?_
  · have s10' := s10
    obtain ⟨_, lb, c, hv, ho, hb1, hb2, _⟩ := s10'
    injection hv with _ _ hv
    subst hv
    refine ⟨⟨by omega, by omega⟩, ?_⟩
    refine v4 ho Int.toNat_natCast Nat.mul_one Nat.zero_add ?_
    refine ⟨by omega, ?_⟩
    have s11 := s10.set1 ho j (i64 1)
    rw [ones_at (by omega : j < n)] at s11
    refine vs ?_
    rw [wrap64 (n := (j : Int) + 1) (by omega) (by omega)]
    exact ⟨n - (j + 1), by omega, j + 1, rfl, by omega, e10.wr (fun _ => rfl) _, s11, rfl⟩
  have hj2 : j = n := by omega
  obtain rfl := hj2
  rw [Nat.sub_self, List.replicate_zero, List.append_nil] at s10
  have g10 : Fresh Hh H10 := g9.then e10 (fun z hz => by omega)
  have o10 := e10.own o9 (fun e => by omega)
  have l10 : LenV H10 sv8 [1] := l8.fresh (f9.then e10 (fun z hz => by omega))
  refine v1 (rd_of_own o10) ?_
  have r10 := s10.rd
  have hL := lengths_Lengths_spec (H := H10) 1 0 (fun _ => open_one) (a := some ⟨bb, 0, none⟩) (c := j) (ws := List.replicate j 1) (by rw [List.length_replicate]; exact r10) (fun x hx => by rw [List.eq_of_mem_replicate hx]; omega)
  rw [List.length_replicate, lenA_bad fineK1 (fun h => by have := h.n2; rw [List.length_replicate] at this; omega)] at hL
  refine hL.mono ?_
  clear hL
  rintro _ H11 ⟨sv, rfl, _, f11⟩
  have g11 := g10.trans f11
  have o11 := f11.own o10 (fun h => h)
  have l11 := l10.fresh f11
  have s11 := Sl.fresh' s10 f11
  refine v1 (rd_of_own o11) ?_
  refine ⟨⟨by omega, by omega, by omega, by omega⟩, ?_⟩
  refine v1 Int.toNat_natCast ?_
  obtain ⟨k, hk⟩ : ∃ k : Nat, k = 4096 := ⟨_, rfl⟩
  rw [if_neg (by omega), Option.map_some, Nat.sub_zero, Nat.sub_zero, show Int.toNat 4096 = k from hk.symm]
  have r11 : RdS H11 1 (.slice (some ⟨bb, 0, none⟩) k j) k ((List.replicate k (1 : Int)).map i64) := by
    obtain ⟨_, lb, c, hv, ho, hb1, hb2, hb3⟩ := s11
    injection hv with _ _ hv
    subst hv
    refine ⟨by rw [List.length_map, List.length_replicate, Nat.mul_one], .inr ⟨bb, 0, j, lb, rfl, rd_of_own ho, by omega, ?_⟩⟩
    have h6 : lb.take (k * 1) = (lb.take (j * 1)).take (k * 1) := by rw [List.take_take, show min (k * 1) (j * 1) = k * 1 by omega]
    rw [List.drop_zero, h6, hb3, List.map_replicate, List.map_replicate, List.take_replicate, show min (k * 1) j = k by omega]
  have hL := lengths_Lengths_spec (H := H11) 1 0 (fun _ => open_one) (a := some ⟨bb, 0, none⟩) (c := j) (ws := List.replicate k 1) (by rw [List.length_replicate]; exact r11) (fun x hx => by rw [List.eq_of_mem_replicate hx]; omega)
  have hls : lenW (List.replicate k 1) = List.replicate k 12 := by rw [hk]; exact len_ones
  have hlen : (lenW (List.replicate k 1)).length = k := by rw [hls, List.length_replicate]
  have hat : ∀ i : Nat, i < k → (lenW (List.replicate k 1))[i]? = some 12 := fun i hi => by rw [hls, List.getElem?_replicate, if_pos hi]
  rw [List.length_replicate, lenA_ok fineK1 (fine_ones (by omega) (by omega))] at hL
  generalize lenW (List.replicate k 1) = ls at *
  refine hL.mono ?_
  clear hL
  rintro _ H12 ⟨sv12, rfl, ⟨a12, c12, rfl, r12⟩, f12⟩
  have g12 := g11.trans f12
  obtain ⟨a8, c8, rfl, r8⟩ := l11.fresh f12
  simp only [] at r12
  rw [hlen] at r12
  refine vs ?_
  refine (law26_alive_spec open_one open_five H12).mono ?_
  rintro _ H13 ⟨rfl, f13⟩
  have g13 := g12.trans f13
  have r8 := r8.fresh f13
  have r12 := r12.fresh f13
  refine v1 decide_true ?_
  obtain ⟨f14, r14⟩ := RdS.lit1 H13 3 1 rfl
  generalize H13.new 3 [i64 1] = H14 at *
  have g14 := g13.trans f14
  have r12 := r12.fresh f14
  refine (ref09_Same_spec (xs := [1]) (ys := [1]) (r8.fresh f14) r14 (by simp)).mono ?_
  rintro _ H14' ⟨rfl, e⟩
  obtain rfl := e
  refine v1 decide_true ?_
  refine Both.of_true (by rw [hlen, hk]; rfl) ?_
  obtain ⟨_, b, o, lb, rfl, hrd, hc0⟩ := RdS.num r12 (hat 0 (by omega))
  obtain ⟨_, b', o', lb', hbb, hrd', hc1⟩ := RdS.num r12 (hat 4095 (by omega))
  injection hbb with hbb
  injection hbb with hb1 hb2
  have hc0' : lb[o + Int.toNat 0 * 1]? = some (i64 12) := hc0
  have hc1' : lb'[o' + Int.toNat 4095 * 1]? = some (i64 12) := hc1
  rw [← hb2] at hc1'
  rw [← hb1] at hrd'
  refine vs ?_
  refine ⟨⟨by omega, by omega⟩, ?_⟩
  refine v3 hrd hc0' decide_true ?_
  refine ⟨⟨by omega, by omega⟩, ?_⟩
  refine v3 hrd' hc1' decide_true ?_
  exact ⟨rfl, g14⟩
end Go.Proofs.YtjlnnljohemifaaGreat
