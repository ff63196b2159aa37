/-
  Texts put behind each other by a program: HufC, Cost26, HufS, Least26, Alive26, LengthsCosts.
-/
import Derived.Test.YtjlnnljohemifaaGreatK3
import Derived.Test.YtjlnnljohemifaaGreatK17
import Derived.Test.YtjlnnljohemifaaGreatK20
import Derived.Test.YtjlnnljohemifaaGreatK22
import Derived.Test.YtjlnnljohemifaaGreatK23
import Derived.Test.YtjlnnljohemifaaGreatK24
set_option linter.unusedVariables false
set_option linter.unusedSimpArgs false
namespace Go.Proofs.YtjlnnljohemifaaGreat
open Go Go.Vc
theorem mul64_spec (H : Hp) (x y : Nat) (hx : x < 18446744073709551616) (hy : y < 18446744073709551616) : CallH Tryz.prog n_math_bits_Mul64 [u64 (x : Int), u64 (y : Int)] H fun v H' => Post (v = .tuple [u64 ((x * y / 18446744073709551616 : Nat) : Int), u64 ((x * y % 18446744073709551616 : Nat) : Int)].toArray ∧ H' = H) := fun w hw => by
  refine (Tryz.bits_Mul64 x y hx hy w).mono ?_
  rintro e w' ⟨rfl, rfl⟩
  exact ⟨_, rfl, Same.refl _, rfl, hw⟩
def CanC (ws ls : List Int) : Prop := ws.length = ls.length ∧ ws.length ≤ 4096 ∧ ∀ i, i < ws.length → 1 ≤ ws.getD i 0 ∧ 0 ≤ ls.getD i 0 ∧ ls.getD i 0 ≤ 4096
instance (ws ls : List Int) : Decidable (CanC ws ls) := by unfold CanC; exact inferInstance
def costZ (ws ls : List Int) : Int := sumI ws.length fun i => ws.getD i 0 * ls.getD i 0
def costA (ws ls : List Int) : Int × Nat := if CanC ws ls then valS (costZ ws ls) else (0, 0)
theorem getD_at {l : List Int} {i : Nat} {x : Int} (h : l[i]? = some x) : l.getD i 0 = x := by rw [List.getD_eq_getElem?_getD, h]; rfl
set_option maxRecDepth 100000 in
set_option maxHeartbeats 4000000 in
theorem lengths_Cost_spec {H : Hp} {a a' : Option Addr} {c c' : Nat} {ws ls : List Int} (h : RdS H 1 (.slice a ws.length c) ws.length (ws.map i64)) (h' : RdS H 1 (.slice a' ls.length c') ls.length (ls.map i64)) (hb : ∀ x ∈ ws, x ≤ 9223372036854775807) :
    CallH Tryz.prog n_lengths_Cost [.slice a ws.length c, .slice a' ls.length c'] H fun v H' => Post (v = .tuple [sumV (costA ws ls), .bool (decide (CanC ws ls))].toArray ∧ Fresh H H') := by
  refine ccT d_lengths_Cost ⟨rfl, ?_⟩
  refine v1 s_lengths_Cost.eq_1 ?_
  have f0 : Fresh H (H.new 36 [i64 0, u64 0]) := (Ext.refl _ _).new _ _
  have o0 : (H.new 36 [i64 0, u64 0]).own H.size = some [i64 0, u64 0] := own_new _ _ _
  have z0 : (H.new 36 [i64 0, u64 0]).size = H.size + 1 := size_new _ _ _
  generalize H.new 36 [i64 0, u64 0] = H0 at *
  have hbad : ¬ CanC ws ls → (Value.tuple [sumV (0, 0), .bool false].toArray = .tuple [sumV (costA ws ls), .bool (decide (CanC ws ls))].toArray) := by
    intro hn
    unfold costA
    rw [if_neg hn, decide_eq_false hn]
  have o0w := own_wr_same (l := [i64 0, u64 0]) o0
  have f0w : Fresh H (H0.wr H.size [i64 0, u64 0]) := f0.then ((Ext.refl (fun z => z = H.size) _).wr (fun _ => rfl) _) (fun z hz => by omega)
  refine Both.dec (fun h1 => ?_) (fun h1 => ?_) <;> refine v1 decide_true ?_
  rotate_left
  · have hn : ¬ CanC ws ls := fun hc => by have := hc.1; omega
    refine v2 o0 (rd_of_own o0w) ?_
    exact ⟨hbad hn, f0w⟩
  have h1 : ws.length = ls.length := by omega
  refine Both.dec (fun h2 => ?_) (fun h2 => ?_) <;> refine v1 decide_true ?_
  · have hn : ¬ CanC ws ls := fun hc => by have := hc.2.1; omega
    refine v2 o0 (rd_of_own o0w) ?_
    exact ⟨hbad hn, f0w⟩
  have hn4 : ws.length ≤ 4096 := by omega
  have f1 : Fresh H0 (H0.new 36 [i64 0, u64 0]) := (Ext.refl _ _).new _ _
  have p1 : (H0.new 36 [i64 0, u64 0]).own (H.size + 1) = some [i64 0, u64 0] := by rw [← z0]; exact own_new _ _ _
  have g1 := f0.trans f1
  have o1 := f1.own o0 (fun h => h)
  rw [z0]
  generalize H0.new 36 [i64 0, u64 0] = H1 at *
  refine LoopV.intro (fun mm env H' => ∃ (j s : Nat), mm = ws.length - j ∧ j ≤ ws.length ∧ (s : Int) = sumI j (fun i => ws.getD i 0 * ls.getD i 0) ∧ s ≤ j * 37778931862957161709568 ∧ (∀ i, i < j → 1 ≤ ws.getD i 0 ∧ 0 ≤ ls.getD i 0 ∧ ls.getD i 0 ≤ 4096) ∧ Ext (fun z => z = H.size + 1) H1 H' ∧ H'.own (H.size + 1) = some [i64 ((s / 18446744073709551616 : Nat) : Int), u64 ((s % 18446744073709551616 : Nat) : Int)] ∧
    env = [(1, .slice a' ls.length c'), (4, ptr H.size), (6, ptr (H.size + 1)), (24, .slice a ws.length c), (25, i64 ws.length), (26, i64 j)]) ws.length ⟨0, 0, by omega, by omega, rfl, by omega, (fun i hi => by omega), Ext.refl _ _, p1, rfl⟩ ?_
  rintro mm env H2 ⟨j, s, rfl, hj, hs, hsb, hok, e2, p2, rfl⟩
  have g2 : Fresh H H2 := g1.then e2 (fun z hz => by omega)
  have o2 := e2.own o1 (fun e => by omega)
  have o2w := own_wr_same (l := [i64 0, u64 0]) o2
  have f2w : Fresh H (H2.wr H.size [i64 0, u64 0]) := g2.then ((Ext.refl (fun z => z = H.size) _).wr (fun _ => rfl) _) (fun z hz => by omega)
  refine vs ?_
  refine Both.dec (fun hlt => ?_) (fun hlt => ?_) <;> refine vs ?_
  · have hj2 : j < ws.length := by omega
    obtain ⟨x, hx⟩ : ∃ x, ws[j]? = some x := ⟨_, List.getElem?_eq_getElem hj2⟩
    obtain ⟨y, hy⟩ : ∃ y, ls[j]? = some y := ⟨_, List.getElem?_eq_getElem (by omega)⟩
    have hxm := hb x (List.mem_of_getElem? hx)
    have hxd := getD_at hx
    have hyd := getD_at hy
    obtain ⟨_, b, o, lb, rfl, hrd, hcell⟩ := RdS.num (h.fresh g2) hx
    obtain ⟨_, b', o', lb', rfl, hrd', hcell'⟩ := RdS.num (h'.fresh g2) hy
    refine ⟨⟨by omega, by omega⟩, ?_⟩
    refine v4 hrd Int.toNat_natCast Nat.mul_one hcell ?_
    refine Both.dec (fun h3 => ?_) (fun h3 => ?_) <;> refine v1 decide_true ?_
    · have hn : ¬ CanC ws ls := fun hc => by have := hc.2.2 j hj2; omega
      refine v2 o2 (rd_of_own o2w) ?_
      exact ⟨hbad hn, f2w⟩
    refine ⟨⟨by omega, by omega⟩, ?_⟩
    refine v4 hrd' Int.toNat_natCast Nat.mul_one hcell' ?_
    refine Both.dec (fun h4 => ?_) (fun h4 => ?_) <;> refine v1 decide_true ?_
    · have hn : ¬ CanC ws ls := fun hc => by have := hc.2.2 j hj2; omega
      refine v2 o2 (rd_of_own o2w) ?_
      exact ⟨hbad hn, f2w⟩
    refine ⟨⟨by omega, by omega⟩, ?_⟩
    refine v4 hrd' Int.toNat_natCast Nat.mul_one hcell' ?_
    refine Both.dec (fun h5 => ?_) (fun h5 => ?_) <;> refine v1 decide_true ?_
    · have hn : ¬ CanC ws ls := fun hc => by have := hc.2.2 j hj2; omega
      refine v2 o2 (rd_of_own o2w) ?_
      exact ⟨hbad hn, f2w⟩
    refine ⟨⟨by omega, by omega⟩, ?_⟩
    refine v4 hrd' Int.toNat_natCast Nat.mul_one hcell' ?_
    obtain ⟨X, rfl⟩ : ∃ X : Nat, x = (X : Int) := ⟨x.toNat, by omega⟩
    obtain ⟨Y, rfl⟩ : ∃ Y : Nat, y = (Y : Int) := ⟨y.toNat, by omega⟩
    rw [wrapU64 (n := (X : Int)) (by omega) (by omega), wrapU64 (n := (Y : Int)) (by omega) (by omega)]
    refine (mul64_spec H2 X Y (by omega) (by omega)).mono ?_
    rintro _ H2' ⟨rfl, e⟩
    obtain rfl := e.symm
    have hP : X * Y ≤ 9223372036854775807 * 4096 := Nat.mul_le_mul (by omega) (by omega)
    have hsum : sumI (j + 1) (fun i => ws.getD i 0 * ls.getD i 0) = ((s + X * Y : Nat) : Int) := by
      rw [sumI_succ, ← hs, hxd, hyd]
      push_cast
      rfl
    generalize X * Y = P at *
    have hsj : s ≤ 4096 * 37778931862957161709568 := Nat.le_trans hsb (Nat.mul_le_mul_right _ (by omega))
    have hsj1 : s + P ≤ (j + 1) * 37778931862957161709568 := by rw [Nat.add_mul]; omega
    refine v1 (rd_of_own p2) ?_
    refine ExtV.mk (fun w => add64_run (s % 18446744073709551616) (P % 18446744073709551616) 0 (by omega) (by omega) (by omega) w) ?_
    have hhi : ((s / 18446744073709551616 : Nat) : Int) + (((P / 18446744073709551616 : Nat) : Int) + (((s % 18446744073709551616 + P % 18446744073709551616 + 0) / 18446744073709551616 : Nat) : Int)) = (((s + P) / 18446744073709551616 : Nat) : Int) := by omega
    have hlo : (s % 18446744073709551616 + P % 18446744073709551616 + 0) % 18446744073709551616 = (s + P) % 18446744073709551616 := by omega
    refine v2 (rd_of_own p2) p2 ?_
    rw [wrapU64 (n := ((P / 18446744073709551616 : Nat) : Int) + (((s % 18446744073709551616 + P % 18446744073709551616 + 0) / 18446744073709551616 : Nat) : Int)) (by omega) (by omega), wrap64 (n := ((P / 18446744073709551616 : Nat) : Int) + (((s % 18446744073709551616 + P % 18446744073709551616 + 0) / 18446744073709551616 : Nat) : Int)) (by omega) (by omega), hhi, hlo, wrap64 (n := (((s + P) / 18446744073709551616 : Nat) : Int)) (by omega) (by omega), wrap64 (n := (j : Int) + 1) (by omega) (by omega)]
    have e3 : Ext (fun z => z = H.size + 1) H2 (H2.wr (H.size + 1) [i64 (((s + P) / 18446744073709551616 : Nat) : Int), u64 (((s + P) % 18446744073709551616 : Nat) : Int)]) := (Ext.refl (fun z => z = H.size + 1) _).wr (fun _ => rfl) _
    refine ⟨ws.length - (j + 1), by omega, j + 1, s + P, rfl, by omega, hsum.symm, hsj1, fun i hi => ?_, e2.trans e3, own_wr_same p2, rfl⟩
    by_cases he : i = j
    · rw [he, hxd, hyd]; omega
    · exact hok i (by omega)
  · have hj2 : j = ws.length := by omega
    subst hj2
    have hc : CanC ws ls := ⟨h1, hn4, hok⟩
    have o3w := own_wr_same (l := [i64 ((s / 18446744073709551616 : Nat) : Int), u64 ((s % 18446744073709551616 : Nat) : Int)]) o2
    refine v3 (rd_of_own p2) o2 (rd_of_own o3w) ?_
    have hv : costA ws ls = (((s / 18446744073709551616 : Nat) : Int), s % 18446744073709551616) := by
      unfold costA valS costZ
      rw [if_pos hc, ← hs]
      refine Prod.ext ?_ ?_
      · simp only; omega
      · simp only; omega
    rw [hv, decide_eq_true hc]
    refine ⟨rfl, g2.then ((Ext.refl (fun z => z = H.size) _).wr (fun _ => rfl) _) (fun z hz => by omega)⟩
set_option maxHeartbeats 1000000 in
theorem ref26_can_spec {H : Hp} {a a' : Option Addr} {c c' : Nat} {ws ls : List Int} (h : RdS H 1 (.slice a ws.length c) ws.length (ws.map i64)) (h' : RdS H 1 (.slice a' ls.length c') ls.length (ls.map i64)) :
    CallH Tryz.prog n_ref26_can [.slice a ws.length c, .slice a' ls.length c'] H fun v H' => Post (v = .bool (decide (CanC ws ls)) ∧ H' = H) := by
  refine ccT d_ref26_can ⟨rfl, ?_⟩
  have hbad : ∀ H' : Hp, H' = H → ¬ CanC ws ls → (Value.bool false = .bool (decide (CanC ws ls)) ∧ H' = H) := fun H' e hn => ⟨by rw [decide_eq_false hn], e⟩
  refine v1 s_ref26_can.eq_1 ?_
  refine Both.dec (fun h1 => ?_) (fun h1 => ?_) <;> refine v1 decide_true ?_
  rotate_left
  · exact hbad _ rfl (fun hc => by have := hc.1; omega)
  have h1 : ws.length = ls.length := by omega
  refine Both.dec (fun h2 => ?_) (fun h2 => ?_) <;> refine v1 decide_true ?_
  · exact hbad _ rfl (fun hc => by have := hc.2.1; omega)
  have hn4 : ws.length ≤ 4096 := by omega
  refine LoopV.intro (fun mm env H' => ∃ j : Nat, mm = ws.length - j ∧ j ≤ ws.length ∧ H' = H ∧ (∀ i, i < j → 1 ≤ ws.getD i 0 ∧ 0 ≤ ls.getD i 0 ∧ ls.getD i 0 ≤ 4096) ∧
    env = [(0, .slice a ws.length c), (1, .slice a' ls.length c'), (17, i64 ws.length), (18, i64 j)]) ws.length ⟨0, by omega, by omega, rfl, (fun i hi => by omega), rfl⟩ ?_
  rintro mm env H2 ⟨j, rfl, hj, rfl, hok, rfl⟩
  refine vs ?_
  refine Both.dec (fun hlt => ?_) (fun hlt => ?_) <;> refine vs ?_
  · have hj2 : j < ws.length := by omega
    obtain ⟨x, hx⟩ : ∃ x, ws[j]? = some x := ⟨_, List.getElem?_eq_getElem hj2⟩
    obtain ⟨y, hy⟩ : ∃ y, ls[j]? = some y := ⟨_, List.getElem?_eq_getElem (by omega)⟩
    have hxd := getD_at hx
    have hyd := getD_at hy
    obtain ⟨_, b, o, lb, rfl, hrd, hcell⟩ := RdS.num h hx
    obtain ⟨_, b', o', lb', rfl, hrd', hcell'⟩ := RdS.num h' hy
    refine ⟨⟨by omega, by omega⟩, ?_⟩
    refine v4 hrd Int.toNat_natCast Nat.mul_one hcell ?_
    refine Both.dec (fun h3 => ?_) (fun h3 => ?_) <;> refine v1 decide_true ?_
    · exact hbad _ rfl (fun hc => by have := hc.2.2 j hj2; omega)
    refine ⟨⟨by omega, by omega⟩, ?_⟩
    refine v4 hrd' Int.toNat_natCast Nat.mul_one hcell' ?_
    refine Both.dec (fun h4 => ?_) (fun h4 => ?_) <;> refine v1 decide_true ?_
    · exact hbad _ rfl (fun hc => by have := hc.2.2 j hj2; omega)
    refine ⟨⟨by omega, by omega⟩, ?_⟩
    refine v4 hrd' Int.toNat_natCast Nat.mul_one hcell' ?_
    refine Both.dec (fun h5 => ?_) (fun h5 => ?_) <;> refine v1 decide_true ?_
    · exact hbad _ rfl (fun hc => by have := hc.2.2 j hj2; omega)
    rw [wrap64 (n := (j : Int) + 1) (by omega) (by omega)]
    refine ⟨ws.length - (j + 1), by omega, j + 1, rfl, by omega, trivial, fun i hi => ?_, rfl⟩
    by_cases he : i = j
    · rw [he, hxd, hyd]; omega
    · exact hok i (by omega)
  · have hj2 : j = ws.length := by omega
    subst hj2
    rw [decide_eq_true (show CanC ws ls from ⟨h1, hn4, hok⟩)]
    exact ⟨rfl, rfl⟩
theorem Sl.shape6 {H : Hp} {w : Value} {n : Nat} {xs : List Value} {fp : Option Nat} (h : Sl H 1 w n xs fp) : ∃ a c, w = .slice a n c := by
  obtain ⟨_, h⟩ := h
  cases fp with
  | none => obtain ⟨rfl, rfl⟩ := h; exact ⟨_, _, rfl⟩
  | some b => obtain ⟨l, c, rfl, _⟩ := h; exact ⟨_, _, rfl⟩
def repW (ws ls : List Int) : Nat → List Int
  | 0 => []
  | j + 1 => repW ws ls j ++ List.replicate (ls.getD j 0).toNat (ws.getD j 0)
theorem repW_succ (ws ls : List Int) (j : Nat) : repW ws ls (j + 1) = repW ws ls j ++ List.replicate (ls.getD j 0).toNat (ws.getD j 0) := rfl
theorem repW_len {ws ls : List Int} : ∀ {j : Nat} (_ : ∀ i, i < j → 1 ≤ ws.getD i 0 ∧ 0 ≤ ls.getD i 0 ∧ ls.getD i 0 ≤ 4096), (repW ws ls j).length ≤ j * 4096
  | 0, _ => by simp [repW]
  | j + 1, h => by
    have ih := repW_len (j := j) (fun i hi => h i (by omega))
    have := h j (by omega)
    rw [repW_succ, List.length_append, List.length_replicate]
    omega
theorem sum_rep (n : Nat) (x : Int) : (List.replicate n x).sum = n * x := by
  induction n with
  | zero => simp
  | succ n ih =>
    rw [List.replicate_succ, List.sum_cons, ih]
    rw [show ((n + 1 : Nat) : Int) = (n : Int) + 1 by omega, Int.add_mul, Int.one_mul]
    omega
theorem repW_sum {ws ls : List Int} : ∀ {j : Nat} (_ : ∀ i, i < j → 1 ≤ ws.getD i 0 ∧ 0 ≤ ls.getD i 0 ∧ ls.getD i 0 ≤ 4096), (repW ws ls j).sum = sumI j fun i => ws.getD i 0 * ls.getD i 0
  | 0, _ => rfl
  | j + 1, h => by
    have ih := repW_sum (j := j) (fun i hi => h i (by omega))
    have := h j (by omega)
    rw [sumI_succ, ← ih, repW_succ, List.sum_append, sum_rep, Int.toNat_of_nonneg this.2.1, Int.mul_comm]
theorem repW_mem {ws ls : List Int} : ∀ {j : Nat} (_ : j ≤ ws.length), ∀ x ∈ repW ws ls j, x ∈ ws
  | 0, _ => by simp [repW]
  | j + 1, h => by
    intro x hx
    rw [repW_succ] at hx
    rcases List.mem_append.1 hx with hx | hx
    · exact repW_mem (j := j) (by omega) x hx
    · rw [List.eq_of_mem_replicate hx, List.getD_eq_getElem?_getD, List.getElem?_eq_getElem (by omega)]
      exact List.getElem_mem _
set_option maxRecDepth 100000 in
set_option maxHeartbeats 4000000 in
theorem ref26_Cost_spec {H : Hp} {a a' : Option Addr} {c c' : Nat} {ws ls : List Int} (h : RdS H 1 (.slice a ws.length c) ws.length (ws.map i64)) (h' : RdS H 1 (.slice a' ls.length c') ls.length (ls.map i64)) (hb : ∀ x ∈ ws, x ≤ 9223372036854775807) (hn : ws.length ≤ 200) :
    CallH Tryz.prog n_ref26_Cost [.slice a ws.length c, .slice a' ls.length c'] H fun v H' => Post (v = .tuple [sumV (costA ws ls), .bool (decide (CanC ws ls))].toArray ∧ Fresh H H') := by
  refine ccT d_ref26_Cost ⟨rfl, ?_⟩
  refine v1 s_ref26_Cost.eq_1 ?_
  have f0 : Fresh H (H.new 39 [i64 0, u64 0]) := (Ext.refl _ _).new _ _
  have o0 : (H.new 39 [i64 0, u64 0]).own H.size = some [i64 0, u64 0] := own_new _ _ _
  have z0 : (H.new 39 [i64 0, u64 0]).size = H.size + 1 := size_new _ _ _
  generalize H.new 39 [i64 0, u64 0] = H0 at *
  refine (ref26_can_spec (h.fresh f0) (h'.fresh f0)).mono ?_
  rintro _ H1 ⟨rfl, e⟩
  obtain rfl := e.symm
  refine vs ?_
  by_cases hC : CanC ws ls
  rotate_left
  · rw [decide_eq_false hC]
    refine v1 decide_true ?_
    have o0w := own_wr_same (l := [i64 0, u64 0]) o0
    refine v2 o0 (rd_of_own o0w) ?_
    refine ⟨?_, f0.then ((Ext.refl (fun z => z = H.size) _).wr (fun _ => rfl) _) (fun z hz => by omega)⟩
    unfold costA
    rw [if_neg hC]
    rfl
  rw [decide_eq_true hC]
  refine v1 decide_true ?_
  obtain ⟨h1, hn4, hok⟩ := hC
  have f1 : Fresh H0 (H0.new 2 []) := (Ext.refl _ _).new _ _
  have s1 : Sl (H0.new 2 []) 1 (.slice (some ⟨H0.size, 0, none⟩) 0 0) (repW ws ls 0).length ((repW ws ls 0).map i64) (some H0.size) := Sl.lit H0 _ 1 0 [] rfl
  have o1 := f1.own o0 (fun h => h)
  generalize H0.new 2 [] = H2 at *
  have hz1 : H.size + 1 ≤ H0.size := by omega
  generalize Value.slice (some ⟨H0.size, 0, none⟩) 0 0 = lv0 at *
  refine LoopV.intro (fun mm env H' => ∃ (j : Nat) (lv : Value) (fp : Option Nat), mm = ws.length - j ∧ j ≤ ws.length ∧ Sl H' 1 lv (repW ws ls j).length ((repW ws ls j).map i64) fp ∧ (∀ b, fp = some b → H.size + 1 ≤ b) ∧ Ext (fun z => H.size + 1 ≤ z) H2 H' ∧
    env = [(1, .slice a' ls.length c'), (4, ptr H.size), (6, lv), (16, .slice a ws.length c), (17, i64 ws.length), (18, i64 j)]) ws.length ⟨0, lv0, some H0.size, by omega, by omega, s1, (fun b hb => by injection hb with hb; omega), Ext.refl _ _, rfl⟩ ?_
  clear s1
  rintro mm env H3 ⟨j, lv, fp, rfl, hj, s3, hfp, e3, rfl⟩
  have g3 : Fresh H H3 := (f0.trans f1).then e3 (fun z hz => by omega)
  have o3 := e3.own o1 (fun e => by omega)
  have hl3 := repW_len (ws := ws) (ls := ls) (j := j) (fun i hi => hok i (by omega))
  refine vs ?_
  refine Both.dec (fun hlt => ?_) (fun hlt => ?_) <;> refine vs ?_
  · have hj2 : j < ws.length := by omega
    obtain ⟨x, hx⟩ : ∃ x, ws[j]? = some x := ⟨_, List.getElem?_eq_getElem hj2⟩
    obtain ⟨y, hy⟩ : ∃ y, ls[j]? = some y := ⟨_, List.getElem?_eq_getElem (by omega)⟩
    have hxd := getD_at hx
    have hyd := getD_at hy
    have hoj := hok j hj2
    obtain ⟨_, b, o, lb, ha, hrd, hcell⟩ := RdS.num (h.fresh g3) hx
    subst ha
    refine ⟨⟨by omega, by omega⟩, ?_⟩
    refine v4 hrd Int.toNat_natCast Nat.mul_one hcell ?_
    refine LoopV.intro (fun mm env H' => ∃ (k : Nat) (lv : Value) (fp : Option Nat), mm = y.toNat - k ∧ k ≤ y.toNat ∧ Sl H' 1 lv (repW ws ls j ++ List.replicate k x).length ((repW ws ls j ++ List.replicate k x).map i64) fp ∧ (∀ b, fp = some b → H.size + 1 ≤ b) ∧ Ext (fun z => H.size + 1 ≤ z) H2 H' ∧
      env = [(1, .slice a' ls.length c'), (4, ptr H.size), (6, lv), (7, i64 j), (8, i64 x), (9, i64 k), (16, .slice (some ⟨b, o, none⟩) ws.length c), (17, i64 ws.length), (18, i64 j)]) y.toNat ⟨0, lv, fp, by omega, by omega, by simpa using s3, hfp, e3, rfl⟩ ?_
    rintro mm env H4 ⟨k, lv4, fp4, rfl, hk, s4, hfp4, e4, rfl⟩
    have g4 : Fresh H H4 := (f0.trans f1).then e4 (fun z hz => by omega)
    obtain ⟨_, b', o', lb', ha', hrd', hcell'⟩ := RdS.num (h'.fresh g4) hy
    subst ha'
    refine vs ?_
    refine ⟨⟨by omega, by omega⟩, ?_⟩
    refine v4 hrd' Int.toNat_natCast Nat.mul_one hcell' ?_
    refine Both.dec (fun hk2 => ?_) (fun hk2 => ?_) <;> refine vs ?_
    · refine pushO (B := H.size + 1) hfp4 (by have := g4.size; have := own_lt (e4.own o1 (fun e => by omega)); omega) s4 x (by rw [List.length_append, List.length_replicate]; omega) fun w' H5 fp5 hf5 s5 e5 => ?_
      refine vs ?_
      rw [wrap64 (n := (k : Int) + 1) (by omega) (by omega)]
      refine ⟨y.toNat - (k + 1), by omega, k + 1, w', fp5, rfl, by omega, ?_, hf5, e4.trans e5, rfl⟩
      rw [List.replicate_succ', ← List.append_assoc]
      exact s5
    · rw [wrap64 (n := (j : Int) + 1) (by omega) (by omega)]
      have hk3 : k = y.toNat := by omega
      subst hk3
      refine ⟨ws.length - (j + 1), by omega, j + 1, lv4, fp4, rfl, by omega, ?_, hfp4, e4, rfl⟩
      rw [repW_succ, hxd, hyd]
      exact s4
  · have hj2 : j = ws.length := by omega
    subst hj2
    have hsum := repW_sum (ws := ws) (ls := ls) (j := ws.length) hok
    have hin : ∀ x ∈ repW ws ls ws.length, -9223372036854775808 ≤ x ∧ x ≤ 9223372036854775807 := fun x hx => by
      have hm := repW_mem (Nat.le_refl _) x hx
      obtain ⟨i, hi⟩ := List.mem_iff_getElem?.1 hm
      have := hok i (List.getElem?_eq_some_iff.1 hi).1
      rw [getD_at hi] at this
      have := hb x hm
      omega
    have hv : totS (repW ws ls ws.length) = costA ws ls := by
      rw [totS_val hin (by omega), hsum]
      unfold costA costZ
      rw [if_pos ⟨h1, hn4, hok⟩]
    obtain ⟨a6, c6, rfl⟩ := Sl.shape6 s3
    refine (ref21_Total_spec s3.rd (by omega) hin).mono ?_
    rintro _ H6 ⟨rfl, f6⟩
    have o6 := f6.own o3 (fun h => h)
    rw [hv]
    generalize costA ws ls = A
    have o6w := own_wr_same (l := [i64 A.1, u64 A.2]) o6
    simp (disch := (first | omega | (simp only [Zs] <;> omega) | fail)) only [go_sem, ↓reduceIte, Zv, sumV, o6, rd_of_own o6w]
    exact ⟨rfl, (g3.trans f6).then ((Ext.refl (fun z => z = H.size) _).wr (fun _ => rfl) _) (fun z hz => by omega)⟩
theorem lenW_in {ws : List Int} (h : FineW ws) : ∀ x ∈ lenW ws, 1 ≤ x ∧ x ≤ 4096 := by
  have h1 := h.n1
  have h2 := h.n2
  intro x hx
  unfold lenW at hx
  split at hx
  · have : x = 1 := by simpa using hx
    omega
  · obtain ⟨n, hn, rfl⟩ := List.mem_map.1 hx
    have := hufL_le h1 n hn
    have := hufL_pos (by omega) n hn
    omega
theorem canC_of {ws ls : List Int} (h : FineW ws) (hl : ws.length = ls.length) (ha : ∀ x ∈ ls, 1 ≤ x ∧ x ≤ 4096) : CanC ws ls := by
  refine ⟨hl, h.n2, fun i hi => ?_⟩
  have e1 : ws[i]? = some ws[i] := List.getElem?_eq_getElem hi
  have e2 : ls[i]? = some (ls[i]'(by omega)) := List.getElem?_eq_getElem (by omega)
  rw [getD_at e1, getD_at e2]
  have h1 := h.pos _ (List.mem_of_getElem? e1)
  have h2 := ha _ (List.mem_of_getElem? e2)
  omega
theorem canC_len {ws : List Int} (h : FineW ws) : CanC ws (lenW ws) := canC_of h (lenW_len ws).symm (lenW_in h)
def LeastP (ws ls : List Int) : Prop := FineW ws ∧ ws.length = ls.length ∧ (∀ x ∈ ls, 1 ≤ x ∧ x ≤ 4096) ∧ krS 4096 (krN ls) ≤ 0 ∧ costZ ws ls = costZ ws (lenW ws)
instance (ws ls : List Int) : Decidable (LeastP ws ls) := by unfold LeastP; exact inferInstance
theorem krN_le {ls : List Int} (ha : ∀ x ∈ ls, x ≤ 4096) : ∀ n ∈ krN ls, n ≤ 4096 := by
  intro n hn
  unfold krN one1 at hn
  obtain ⟨x, hx, rfl⟩ := List.mem_map.1 hn
  have := ha x hx
  omega
theorem eqSum (a b c d : Int) : eqVs [(0, none, Shape.int), (1, none, Shape.int)] [i64 a, u64 b] [i64 c, u64 d] = some (decide (a = c ∧ b = d)) := by
  simp only [eqV, eqVs, partL_none, List.getElem?_cons_zero, List.getElem?_cons_succ, simpleEq, if_pos rfl]
  by_cases e : a = c
  · by_cases e2 : b = d <;> simp [e, e2]
  · simp [e]
theorem least_in_spec (H : Hp) (x : Int) : CallH Tryz.prog n_lengths_Least_1 [i64 x] H fun v H' => Post (v = .bool (decide (x < 1 ∨ 4096 < x)) ∧ H' = H) := by
  refine ccT d_lengths_Least_1 ⟨rfl, ?_⟩
  refine v1 s_lengths_Least_1.eq_1 ?_
  refine Both.dec (fun h => ?_) (fun h => ?_) <;> refine vs ?_
  · rw [decide_eq_true (.inl h)]; exact ⟨rfl, rfl⟩
  · refine ⟨congrArg Value.bool (decide_eq_decide.2 (by omega)), rfl⟩
set_option maxRecDepth 100000 in
set_option maxHeartbeats 4000000 in
theorem lengths_Least_spec {H : Hp} (hop : OpenN 1 0) {a a' : Option Addr} {c c' : Nat} {ws ls : List Int} (h : RdS H 1 (.slice a ws.length c) ws.length (ws.map i64)) (h' : RdS H 1 (.slice a' ls.length c') ls.length (ls.map i64)) (hb : ∀ x ∈ ws, x ≤ 9223372036854775807) :
    CallH Tryz.prog n_lengths_Least [.slice a ws.length c, .slice a' ls.length c'] H fun v H' => Post (v = .bool (decide (LeastP ws ls)) ∧ Fresh H H') := by
  refine ccT d_lengths_Least ⟨rfl, ?_⟩
  refine v1 s_lengths_Least.eq_1 ?_
  refine (lengths_fine_spec h hb).mono ?_
  rintro _ H1' ⟨rfl, e⟩
  obtain rfl := e.symm
  refine vs ?_
  by_cases hF : FineW ws
  rotate_left
  · rw [decide_eq_false hF]
    refine v1 decide_true ?_
    rw [decide_eq_false (fun hl : LeastP ws ls => hF hl.1)]
    exact ⟨rfl, Ext.refl _ _⟩
  rw [decide_eq_true hF]
  refine v1 decide_true ?_
  refine Both.dec (fun h1 => ?_) (fun h1 => ?_) <;> refine v1 decide_true ?_
  rotate_left
  · rw [decide_eq_false (fun hl : LeastP ws ls => by have := hl.2.1; omega)]
    exact ⟨rfl, Ext.refl _ _⟩
  have h1 : ws.length = ls.length := by omega
  have hn2 := hF.n2
  refine (ContainsFuncI_spec n_lengths_Least_1 [] (fun x => decide (x < 1 ∨ 4096 < x)) (fun H' => H' = H) rfl (fun H' e => e ▸ h') (by kernel_rfl) (fun H' x _ e => (least_in_spec H' x).mono fun v H'' hp => ⟨hp.1, hp.2.trans e⟩) (by omega)).mono ?_
  rintro _ H1' ⟨rfl, e⟩
  obtain rfl := e.symm
  refine vs ?_
  by_cases hany : ∀ x ∈ ls, 1 ≤ x ∧ x ≤ 4096
  rotate_left
  · have ha : (ls.any fun x => decide (x < 1 ∨ 4096 < x)) = true := by
      apply Classical.byContradiction
      intro hc
      rw [Bool.not_eq_true, List.any_eq_false] at hc
      exact hany fun x hx => by have := hc x hx; simp at this; omega
    rw [ha]
    refine v1 decide_true ?_
    rw [decide_eq_false (fun hl : LeastP ws ls => hany hl.2.2.1)]
    exact ⟨rfl, Ext.refl _ _⟩
  have ha : (ls.any fun x => decide (x < 1 ∨ 4096 < x)) = false := by
    rw [List.any_eq_false]
    intro x hx
    have := hany x hx
    simp
    omega
  rw [ha]
  refine v1 decide_true ?_
  obtain ⟨kv, hkv⟩ : ∃ kv, kv = krS 4096 (krN ls) := ⟨_, rfl⟩
  have hK := lengths_Kraft_spec h' (by omega) (krN_le fun x hx => (hany x hx).2) (by omega)
  rw [← hkv] at hK
  refine hK.mono ?_
  clear hK
  rintro _ H2 ⟨rfl, f2⟩
  refine vs ?_
  refine Both.dec (fun h3 => ?_) (fun h3 => ?_) <;> refine v1 decide_true ?_
  · rw [decide_eq_false (fun hl : LeastP ws ls => by have h9 := hl.2.2.2.1; rw [← hkv] at h9; omega)]
    exact ⟨rfl, f2⟩
  refine (lengths_Lengths_spec 1 0 (fun _ => hop) (h.fresh f2) hb).mono ?_
  have hA : lenA 1 0 ws = (0, lenW ws) := by
    unfold lenA
    rw [if_neg (by rw [chk0 (by unfold FineK; omega)]; omega), if_pos hF]
  rintro _ H3 ⟨sv, rfl, ⟨a3, c3, rfl, hr3⟩, f3⟩
  rw [hA] at hr3 ⊢
  have g3 := f2.trans f3
  refine vs ?_
  refine (lengths_Cost_spec (h.fresh g3) (h'.fresh g3) hb).mono ?_
  rintro _ H4 ⟨rfl, f4⟩
  have g4 := g3.trans f4
  rw [decide_eq_true (canC_of hF h1 hany)]
  generalize hA1 : costA ws ls = A1
  simp (disch := (first | omega | (simp only [Zs] <;> omega) | fail)) only [go_sem, ↓reduceIte, Zv, sumV]
  obtain ⟨f5, b5, z5⟩ := zst H4 36 [i64 0, u64 0] [i64 A1.1, u64 A1.2]
  generalize hB : H4.size = bb at *
  generalize (H4.new 36 [i64 0, u64 0]).wr bb [i64 A1.1, u64 A1.2] = H5 at *
  have g5 := g4.trans f5
  refine (lengths_Cost_spec (h.fresh g5) ((hr3.fresh f4).fresh f5) hb).mono ?_
  rintro _ H6 ⟨rfl, f6⟩
  have g6 := g5.trans f6
  have b6 := f6.own b5 (fun h => h)
  rw [decide_eq_true (canC_len hF)]
  generalize hA2 : costA ws (lenW ws) = A2
  simp (disch := (first | omega | (simp only [Zs] <;> omega) | fail)) only [go_sem, ↓reduceIte, Zv, sumV]
  obtain ⟨f7, b7, z7⟩ := zst H6 36 [i64 0, u64 0] [i64 A2.1, u64 A2.2]
  have b7' := f7.own b6 (fun h => h)
  generalize hC : H6.size = cc at *
  generalize (H6.new 36 [i64 0, u64 0]).wr cc [i64 A2.1, u64 A2.2] = H7 at *
  refine v4 decide_true (rd_of_own b7) (rd_of_own b7') eqSum ?_
  refine ⟨?_, g6.trans f7⟩
  refine congrArg Value.bool (decide_eq_decide.2 ?_)
  have e1 : A1 = valS (costZ ws ls) := by rw [← hA1]; unfold costA; rw [if_pos (canC_of hF h1 hany)]
  have e2 : A2 = valS (costZ ws (lenW ws)) := by rw [← hA2]; unfold costA; rw [if_pos (canC_len hF)]
  constructor
  · rintro ⟨x1, x2⟩
    have : A1 = A2 := Prod.ext (by omega) (by omega)
    rw [e1, e2] at this
    exact ⟨hF, h1, hany, by rw [← hkv]; omega, valS_inj this⟩
  · intro hl
    have := hl.2.2.2.2
    rw [← this, ← e1] at e2
    rw [e2]
    exact ⟨rfl, rfl⟩
theorem canC_le {ws ls : List Int} (h : CanC ws ls) : ∀ x ∈ ls, x ≤ 4096 := fun x hx => by
  obtain ⟨i, hi⟩ := List.mem_iff_getElem?.1 hx
  have h1 := (List.getElem?_eq_some_iff.1 hi).1
  have := h.2.2 i (by rw [h.1]; exact h1)
  rw [getD_at (l := ls) hi] at this
  omega
set_option maxRecDepth 100000 in
set_option maxHeartbeats 4000000 in
theorem ref26_Least_spec {H : Hp} {a a' : Option Addr} {c c' : Nat} {ws ls : List Int} (h : RdS H 1 (.slice a ws.length c) ws.length (ws.map i64)) (h' : RdS H 1 (.slice a' ls.length c') ls.length (ls.map i64)) (hb : ∀ x ∈ ws, x ≤ 9223372036854775807) (hn : ws.length ≤ 200) (hl : ls.length ≤ 200) :
    CallH Tryz.prog n_ref26_Least [.slice a ws.length c, .slice a' ls.length c'] H fun v H' => Post (v = .bool (decide (LeastP ws ls)) ∧ Fresh H H') := by
  refine ccT d_ref26_Least ⟨rfl, ?_⟩
  refine v1 s_ref26_Least.eq_1 ?_
  refine (ref26_Right_spec h hb (by omega)).mono ?_
  rintro _ H1' ⟨rfl, e⟩
  obtain rfl := e.symm
  refine vs ?_
  by_cases hF : FineW ws
  rotate_left
  · rw [decide_eq_false hF]
    refine v1 decide_true ?_
    rw [decide_eq_false (fun hl : LeastP ws ls => hF hl.1)]
    exact ⟨rfl, Ext.refl _ _⟩
  rw [decide_eq_true hF]
  refine v1 decide_true ?_
  refine (ref26_can_spec h h').mono ?_
  rintro _ H1' ⟨rfl, e⟩
  obtain rfl := e.symm
  refine vs ?_
  by_cases hC : CanC ws ls
  rotate_left
  · rw [decide_eq_false hC]
    refine v1 decide_true ?_
    rw [decide_eq_false (fun hl : LeastP ws ls => hC (canC_of hF hl.2.1 hl.2.2.1))]
    exact ⟨rfl, Ext.refl _ _⟩
  rw [decide_eq_true hC]
  refine v1 decide_true ?_
  have h1 := hC.1
  have hle := canC_le hC
  obtain ⟨kv, hkv⟩ : ∃ kv, kv = krS 4096 (krN ls) := ⟨_, rfl⟩
  have hK := ref26_Kraft_spec h' (by omega) (M := 4096) (krN_le hle) (by omega)
  rw [← hkv] at hK
  refine hK.mono ?_
  clear hK
  rintro _ H2 ⟨rfl, f2⟩
  refine vs ?_
  refine Both.dec (fun h3 => ?_) (fun h3 => ?_) <;> refine v1 decide_true ?_
  · rw [decide_eq_false (fun hl : LeastP ws ls => by have h9 := hl.2.2.2.1; rw [← hkv] at h9; omega)]
    exact ⟨rfl, f2⟩
  refine LoopV.intro (fun mm env H' => ∃ j : Nat, mm = ls.length - j ∧ j ≤ ls.length ∧ H' = H2 ∧ (∀ x ∈ ls.take j, 1 ≤ x) ∧
    env = [(0, .slice a ws.length c), (1, .slice a' ls.length c'), (27, .slice a' ls.length c'), (28, i64 ls.length), (29, i64 j)]) ls.length ⟨0, by omega, by omega, rfl, by simp, rfl⟩ ?_
  rintro mm env H2' ⟨j, rfl, hj, rfl, hp, rfl⟩
  refine vs ?_
  refine Both.dec (fun hlt => ?_) (fun hlt => ?_) <;> refine vs ?_
  · obtain ⟨x, hx⟩ : ∃ x, ls[j]? = some x := ⟨_, List.getElem?_eq_getElem (by omega)⟩
    obtain ⟨_, b, o, lb, rfl, hrd, hcell⟩ := RdS.num (h'.fresh f2) hx
    refine ⟨⟨by omega, by omega⟩, ?_⟩
    refine v4 hrd Int.toNat_natCast Nat.mul_one hcell ?_
    refine Both.dec (fun h4 => ?_) (fun h4 => ?_) <;> refine v1 decide_true ?_
    · rw [decide_eq_false (fun hl : LeastP ws ls => by have h9 := hl.2.2.1 x (List.mem_of_getElem? hx); omega)]
      exact ⟨rfl, f2⟩
    · rw [wrap64 (n := (j : Int) + 1) (by omega) (by omega)]
      refine ⟨ls.length - (j + 1), by omega, j + 1, rfl, by omega, trivial, fun y hy => ?_, rfl⟩
      rw [List.take_add_one, hx, List.mem_append] at hy
      rcases hy with hy | hy
      · exact hp y hy
      · have : y = x := by simpa using hy
        omega
  have hj2 : j = ls.length := by omega
  subst hj2
  rw [List.take_length] at hp
  have hany : ∀ x ∈ ls, 1 ≤ x ∧ x ≤ 4096 := fun x hx => ⟨hp x hx, hle x hx⟩
  refine (ref26_Lengths_spec 1 0 (h.fresh f2) hb (by omega)).mono ?_
  have hA : lenA 1 0 ws = (0, lenW ws) := by
    unfold lenA
    rw [if_neg (by rw [chk0 (by unfold FineK; omega)]; omega), if_pos hF]
  rintro _ H3 ⟨sv, rfl, ⟨a3, c3, rfl, hr3⟩, f3⟩
  rw [hA] at hr3 ⊢
  have g3 := f2.trans f3
  refine vs ?_
  refine (ref26_Cost_spec (h.fresh g3) (h'.fresh g3) hb hn).mono ?_
  rintro _ H4 ⟨rfl, f4⟩
  have g4 := g3.trans f4
  rw [decide_eq_true hC]
  generalize hA1 : costA ws ls = A1
  simp (disch := (first | omega | (simp only [Zs] <;> omega) | fail)) only [go_sem, ↓reduceIte, Zv, sumV]
  obtain ⟨f5, b5, z5⟩ := zst H4 39 [i64 0, u64 0] [i64 A1.1, u64 A1.2]
  generalize hB : H4.size = bb at *
  generalize (H4.new 39 [i64 0, u64 0]).wr bb [i64 A1.1, u64 A1.2] = H5 at *
  have g5 := g4.trans f5
  refine (ref26_Cost_spec (h.fresh g5) ((hr3.fresh f4).fresh f5) hb hn).mono ?_
  rintro _ H6 ⟨rfl, f6⟩
  have g6 := g5.trans f6
  have b6 := f6.own b5 (fun h => h)
  rw [decide_eq_true (canC_len hF)]
  generalize hA2 : costA ws (lenW ws) = A2
  simp (disch := (first | omega | (simp only [Zs] <;> omega) | fail)) only [go_sem, ↓reduceIte, Zv, sumV]
  obtain ⟨f7, b7, z7⟩ := zst H6 39 [i64 0, u64 0] [i64 A2.1, u64 A2.2]
  have b7' := f7.own b6 (fun h => h)
  generalize hC2 : H6.size = cc at *
  generalize (H6.new 39 [i64 0, u64 0]).wr cc [i64 A2.1, u64 A2.2] = H7 at *
  refine v4 decide_true (rd_of_own b7) (rd_of_own b7') eqSum ?_
  refine ⟨?_, g6.trans f7⟩
  refine congrArg Value.bool (decide_eq_decide.2 ?_)
  have e1 : A1 = valS (costZ ws ls) := by rw [← hA1]; unfold costA; rw [if_pos hC]
  have e2 : A2 = valS (costZ ws (lenW ws)) := by rw [← hA2]; unfold costA; rw [if_pos (canC_len hF)]
  constructor
  · rintro ⟨x1, x2⟩
    have : A1 = A2 := Prod.ext (by omega) (by omega)
    rw [e1, e2] at this
    exact ⟨hF, h1, hany, by rw [← hkv]; omega, valS_inj this⟩
  · intro hl
    have := hl.2.2.2.2
    rw [← this, ← e1] at e2
    rw [e2]
    exact ⟨rfl, rfl⟩
theorem krN_huf {ws : List Int} (h1 : 2 ≤ ws.length) : krN (lenW ws) = hufL ws := by
  unfold lenW
  rw [if_neg (by omega)]
  unfold krN
  rw [List.map_map]
  conv => rhs; rw [← List.map_id (hufL ws)]
  refine List.map_congr_left fun n hn => ?_
  have := hufL_pos h1 n hn
  show (one1 (n : Int)).toNat = n
  unfold one1
  omega
theorem krS_len {ws : List Int} (hF : FineW ws) {M : Nat} (hM : ∀ n ∈ krN (lenW ws), n ≤ M) : krS M (krN (lenW ws)) ≤ 0 ∧ (2 ≤ ws.length → krS M (krN (lenW ws)) = 0) := by
  have h1 := hF.n1
  by_cases h2 : 2 ≤ ws.length
  · have : krS M (krN (lenW ws)) = 0 := by
      rw [krN_huf h2] at hM ⊢
      rw [krS_any (M' := ws.length) hM (fun n hn => by have := hufL_le h1 n hn; omega)]
      unfold krS
      rw [hufL_room h1, if_neg (by omega), if_pos rfl]
    exact ⟨by omega, fun _ => this⟩
  · refine ⟨?_, fun h => absurd h h2⟩
    have e : krN (lenW ws) = [1] := by unfold lenW; rw [if_pos (by omega)]; rfl
    rw [e] at hM ⊢
    rw [krS_any (M' := 1) hM (by simp)]
    decide
theorem least_len {ws : List Int} (hF : FineW ws) : LeastP ws (lenW ws) := ⟨hF, (lenW_len ws).symm, lenW_in hF, (krS_len hF (krN_le fun x hx => (lenW_in hF x hx).2)).1, rfl⟩
theorem ex_fine : FineW [1, 1, 2] := by decide
theorem ex_len : lenW [1, 1, 2] = [2, 2, 1] := by decide
theorem ex_lenA : lenA 5 0 [1, 1, 2] = (0, [2, 2, 1]) := by
  unfold lenA
  rw [if_neg (by rw [chk0 (by unfold FineK; omega)]; omega), if_pos ex_fine, ex_len]
theorem ex_least : LeastP [1, 1, 2] [2, 2, 1] := by
  have := least_len ex_fine
  rwa [ex_len] at this
theorem RdS.lit3 (H : Hp) (T : TypeId) (x y z : Int) {b : Nat} (hb : b = H.size) : Fresh H (H.new T [i64 x, i64 y, i64 z]) ∧ RdS (H.new T [i64 x, i64 y, i64 z]) 1 (.slice (some ⟨b, 0, none⟩) 3 3) 3 ([x, y, z].map i64) :=
  ⟨(Ext.refl _ _).new _ _, (Sl.lit_at (n := 3) (xs := [i64 x, i64 y, i64 z]) rfl hb).rd⟩
set_option maxHeartbeats 2000000 in
theorem law26_alive_spec (h1 : OpenN 1 0) (h5 : OpenN 5 0) (H : Hp) : CallH Tryz.prog n_law26_lengthsAlive [] H fun v H' => Post (v = .bool true ∧ Fresh H H') := by
  refine ccT d_law26_lengthsAlive ⟨rfl, ?_⟩
  refine v1 s_law26_lengthsAlive.eq_1 ?_
  obtain ⟨f1, r1⟩ := RdS.lit3 H 2 1 1 2 rfl
  generalize H.new 2 [i64 1, i64 1, i64 2] = H1 at *
  refine (lengths_Lengths_spec 5 0 (fun _ => h5) (ws := [1, 1, 2]) r1 (by simp)).mono ?_
  rw [ex_lenA]
  rintro _ H2 ⟨sv, rfl, ⟨a, c, rfl, r2⟩, f2⟩
  have g2 := f1.trans f2
  refine v1 decide_true ?_
  obtain ⟨f3, r3⟩ := RdS.lit3 H2 3 2 2 1 rfl
  generalize H2.new 3 [i64 2, i64 2, i64 1] = H3 at *
  have g3 := g2.trans f3
  have r2 := r2.fresh f3
  refine (ref09_Same_spec (xs := [2, 2, 1]) (ys := [2, 2, 1]) r2 r3 (by simp)).mono ?_
  rintro _ H3' ⟨rfl, e⟩
  obtain rfl := e
  refine v1 decide_true ?_
  refine (lengths_Kraft_spec (l := [2, 2, 1]) (M := 2) r2 (by simp) (by decide) (by omega)).mono ?_
  rintro _ H4 ⟨rfl, f4⟩
  rw [show krS 2 (krN [2, 2, 1]) = 0 by decide]
  have g4 := g3.trans f4
  refine v1 decide_true ?_
  obtain ⟨f5, r5⟩ := RdS.lit3 H4 2 1 1 2 rfl
  generalize H4.new 2 [i64 1, i64 1, i64 2] = H5 at *
  refine (lengths_Least_spec h1 (ws := [1, 1, 2]) (ls := [2, 2, 1]) r5 ((r2.fresh f4).fresh f5) (by simp)).mono ?_
  rintro _ H6 ⟨rfl, f6⟩
  rw [decide_eq_true ex_least]
  refine vs ?_
  exact ⟨rfl, (g4.trans f5).trans f6⟩
set_option maxRecDepth 100000 in
set_option maxHeartbeats 1000000 in
theorem law26_LengthsCosts_args {Hh : Hp} {v0 v1 : Value} (h0 : fitA Hh (false, [.sl [.i .i64]]) v0) (h1 : fitA Hh (false, [.sl [.i .i64]]) v1) : CallH Tryz.prog n_law26_LengthsCosts [v0, v1] Hh fun v H' => Post (v = .bool true ∧ Fresh Hh H') := by
  obtain ⟨ws, a, c, rfl, hr, hm, hw⟩ := fitA_ints26 h0
  obtain ⟨ls, a', c', rfl, hr', hm', hw'⟩ := fitA_ints26 h1
  clear h0 h1
  have hb : ∀ x ∈ ws, x ≤ 9223372036854775807 := fun x hx => (hw x hx).2
  refine ccT d_law26_LengthsCosts ⟨rfl, ?_⟩
  refine v1 s_law26_LengthsCosts.eq_1 ?_
  refine (law26_alive_spec open_one open_five Hh).mono ?_
  rintro _ H1 ⟨rfl, f1⟩
  refine v1 decide_true ?_
  refine Both.dec (fun c1 => ?_) (fun c1 => ?_) <;> refine v1 decide_true ?_
  · exact ⟨rfl, f1⟩
  refine Both.dec (fun c2 => ?_) (fun c2 => ?_) <;> refine v1 decide_true ?_
  · exact ⟨rfl, f1⟩
  refine (lengths_Cost_spec (hr.fresh f1) (hr'.fresh f1) hb).mono ?_
  rintro _ H2 ⟨rfl, f2⟩
  have g2 := f1.trans f2
  obtain ⟨A, hA⟩ : ∃ A, A = costA ws ls := ⟨_, rfl⟩
  obtain ⟨B, hB⟩ : ∃ B, B = decide (CanC ws ls) := ⟨_, rfl⟩
  rw [← hA, ← hB]
  simp (disch := (first | omega | (simp only [Zs] <;> omega) | fail)) only [go_sem, ↓reduceIte, Zv, sumV]
  obtain ⟨f3, b3, z3⟩ := zst H2 36 [i64 0, u64 0] [i64 A.1, u64 A.2]
  generalize hs3 : H2.size = b at *
  generalize (H2.new 36 [i64 0, u64 0]).wr b [i64 A.1, u64 A.2] = H3 at *
  have g3 := g2.trans f3
  refine (ref26_Cost_spec (hr.fresh g3) (hr'.fresh g3) hb (by omega)).mono ?_
  rintro _ H4 ⟨rfl, f4⟩
  have g4 := g3.trans f4
  have b4 := f4.own b3 (fun h => h)
  rw [← hA, ← hB]
  simp (disch := (first | omega | (simp only [Zs] <;> omega) | fail)) only [go_sem, ↓reduceIte, Zv, sumV]
  obtain ⟨f5, b5, z5⟩ := zst H4 39 [i64 0, u64 0] [i64 A.1, u64 A.2]
  have b5' := f5.own b4 (fun h => h)
  generalize hs5 : H4.size = d at *
  generalize (H4.new 39 [i64 0, u64 0]).wr d [i64 A.1, u64 A.2] = H5 at *
  have g5 := g4.trans f5
  refine v3 decide_true (rd_of_own b5) (rd_of_own b5') ?_
  refine Both.of_true (beq_self_eq_true B) ?_
  refine v3 decide_true (rd_of_own b5) (rd_of_own b5') ?_
  obtain ⟨M, hM0⟩ : ∃ M : Nat, M = 9223372036854775807 := ⟨_, rfl⟩
  have hM : ∀ n ∈ krN ls, n ≤ M := fun n hn => by
    unfold krN one1 at hn
    obtain ⟨x, hx, rfl⟩ := List.mem_map.1 hn
    have := hw' x hx
    omega
  obtain ⟨kv, hkv⟩ : ∃ kv, kv = krS M (krN ls) := ⟨_, rfl⟩
  have K1 := lengths_Kraft_spec (hr'.fresh g5) (by omega) hM (by omega)
  rw [← hkv] at K1
  refine K1.mono ?_
  clear K1
  rintro _ H6 ⟨rfl, f6⟩
  have g6 := g5.trans f6
  refine vs ?_
  have K2 := ref26_Kraft_spec (hr'.fresh g6) (by omega) hM (by omega)
  rw [← hkv] at K2
  refine K2.mono ?_
  clear K2
  rintro _ H7 ⟨rfl, f7⟩
  have g7 := g6.trans f7
  refine v1 decide_true ?_
  refine (lengths_Least_spec open_one (hr.fresh g7) (hr'.fresh g7) hb).mono ?_
  rintro _ H8 ⟨rfl, f8⟩
  have g8 := g7.trans f8
  refine vs ?_
  refine (ref26_Least_spec (hr.fresh g8) (hr'.fresh g8) hb (by omega) (by omega)).mono ?_
  rintro _ H9 ⟨rfl, f9⟩
  generalize decide (LeastP ws ls) = D
  refine vs ?_
  exact ⟨congrArg Value.bool (beq_self_eq_true D), g8.trans f9⟩
end Go.Proofs.YtjlnnljohemifaaGreat
