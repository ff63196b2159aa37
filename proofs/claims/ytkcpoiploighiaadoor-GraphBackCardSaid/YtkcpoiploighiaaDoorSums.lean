/-
  Sums of 128 bits: the program's and the document's.
-/
import Derived.Test.YtkcpoiploighiaaDoorOrdI
import Derived.Test.YtkcpoiploighiaaDoorArgs
import Derived.Shelf.Spec.BitsCarry
set_option linter.unusedVariables false
set_option linter.unusedSimpArgs false
namespace Go.Proofs.YtkcpoiploighiaaDoor
open Go Go.Vc

theorem add64_run (x y c : Nat) (hc : c ≤ 1) (hx : x < 18446744073709551616) (hy : y < 18446744073709551616) (w : World) :
    (callFunc 28 [u64 (x : Int), u64 (y : Int), u64 (c : Int)].toArray).run Tryd.prog w =
      .ok (.value (.tuple [u64 (((x + y + c) % 18446744073709551616 : Nat) : Int), u64 (((x + y + c) / 18446744073709551616 : Nat) : Int)].toArray)) w := by
  show (callFunc 28 #[.int .u64 x, .int .u64 y, .int .u64 c]).run Tryd.prog w = _
  rw [run_callFunc_extern Tryd.func28 (by kernel_rfl) (by kernel_rfl) (by kernel_rfl) (e := add64Entry) (by kernel_rfl), run_add64 x y c (by omega) (by omega) (by omega) (by omega)]
  simp only [Result.andThen]
  congr 5 <;> omega

/-- A number's low word. -/
def lowN (n : Int) : Nat := (n % 18446744073709551616).toNat
theorem wrap_low (n : Int) : IntKind.u64.wrap n = (lowN n : Int) := by
  have e : (2 ^ IntKind.u64.bits : Int) = 18446744073709551616 := rfl
  unfold IntKind.wrap lowN
  simp only [e, IntKind.signed, Bool.false_and]
  rw [if_neg (by simp)]; omega
theorem lowN_lt (n : Int) : lowN n < 18446744073709551616 := by unfold lowN; omega
theorem wrap_add (a b : Int) : IntKind.i64.wrap (IntKind.i64.wrap a + b) = IntKind.i64.wrap (a + b) := by
  have e : (2 ^ IntKind.i64.bits : Int) = 18446744073709551616 := rfl
  have e' : (2 ^ (IntKind.i64.bits - 1) : Int) = 9223372036854775808 := rfl
  unfold IntKind.wrap
  simp only [e, e', IntKind.signed, Bool.true_and, decide_eq_true_eq]
  split <;> split <;> split <;> omega
theorem shr63 {y : Int} (h0 : -9223372036854775808 ≤ y) (h1 : y ≤ 9223372036854775807) : Int.fdiv y (2 ^ (min (Int.toNat 63) 64)) = if y < 0 then -1 else 0 := by
  have e : (2 ^ (min (Int.toNat 63) 64) : Int) = 9223372036854775808 := rfl
  rw [e, Int.fdiv_eq_ediv_of_nonneg _ (by omega)]
  split <;> omega

/-- A sum and one number more. -/
def addS (s : Int × Nat) (n : Int) : Int × Nat :=
  (IntKind.i64.wrap (s.1 + (if n < 0 then -1 else 0) + ((s.2 + lowN n) / 18446744073709551616 : Nat)), (s.2 + lowN n) % 18446744073709551616)
def totS (l : List Int) : Int × Nat := l.foldl addS (0, 0)
def sumV (s : Int × Nat) : Value := .agg [i64 s.1, u64 s.2].toArray

theorem totS_snoc (l : List Int) (x : Int) : totS (l ++ [x]) = addS (totS l) x := by
  unfold totS
  rw [List.foldl_append]
  rfl

theorem graph_Total_spec {H : Hp} {a : Option Addr} {n c : Nat} {l : List Int} (h : RdS H 1 (.slice a n c) n (l.map i64)) (hn : n ≤ 1000000) (hl : ∀ x ∈ l, -9223372036854775808 ≤ x ∧ x ≤ 9223372036854775807) :
    CallH Tryd.prog n_graph_Total [.slice a n c] H fun v H' => Post (v = sumV (totS l) ∧ Fresh H H') := by
  have hlen : l.length = n := by have := h.1; simpa using this
  refine c_graph_Total ⟨rfl, ?_⟩
  simp (disch := (first | omega | (simp only [size_new, size_newm, size_wr, size_wrm] <;> omega) | fail)) only [go_sem, Nat.reduceBEq, Nat.reduceAdd, Nat.reduceMul, Nat.reduceLeDiff, ↓reduceIte, rd_new_lt, own_new_lt, mp_new_lt, rd_newm_lt, own_newm_lt, mp_newm_lt, rd_wr_ne, own_wr_ne, mp_wr_ne, rd_wrm_ne, own_wrm_ne, mp_wrm_ne, rd_new_eq, own_new_eq, mp_newm_eq, s_graph_Total]
  have f0 : Fresh H ((H.new 26 [i64 0, u64 0]).new 26 [i64 0, u64 0]) := ((Ext.refl _ _).new _ _).new _ _
  have b0 : ((H.new 26 [i64 0, u64 0]).new 26 [i64 0, u64 0]).own H.size = some [i64 0, u64 0] := Ext.own (((Ext.refl (fun _ => False) _).new _ _) : Fresh (H.new 26 [i64 0, u64 0]) _) (own_new _ _ _) (fun h => h)
  have d0 : ((H.new 26 [i64 0, u64 0]).new 26 [i64 0, u64 0]).own (H.size + 1) = some [i64 0, u64 0] := own_new_eq (by simp only [size_new])
  generalize (H.new 26 [i64 0, u64 0]).new 26 [i64 0, u64 0] = H0 at *
  have hk := h.fresh f0
  refine LoopV.intro (fun m env H' => Fresh H H' ∧ Ext (fun z => z = H.size + 1) H0 H' ∧ ∃ (j : Nat), m = n - j ∧ j ≤ n ∧ (totS (l.take j)).2 < 18446744073709551616 ∧ H'.own (H.size + 1) = some [i64 (totS (l.take j)).1, u64 (totS (l.take j)).2] ∧
    env = [(2, ptr H.size), (3, ptr (H.size + 1)), (8, .slice a n c), (9, i64 n), (10, i64 j)]) n ⟨f0, Ext.refl _ _, 0, by omega, by omega, by simp [totS], d0, rfl⟩ ?_
  rintro m env H1 ⟨f1, e1, j, hm, hj, hlo, d1, rfl⟩
  have h1 := h.fresh f1
  have b1 : H1.own H.size = some [i64 0, u64 0] := e1.own b0 (fun h => by omega)
  simp (disch := (first | omega | (simp only [size_new, size_newm, size_wr, size_wrm] <;> omega) | fail)) only [go_sem, Nat.reduceBEq, Nat.reduceAdd, Nat.reduceMul, Nat.reduceLeDiff, ↓reduceIte, rd_new_lt, own_new_lt, mp_new_lt, rd_newm_lt, own_newm_lt, mp_newm_lt, rd_wr_ne, own_wr_ne, mp_wr_ne, rd_wrm_ne, own_wrm_ne, mp_wrm_ne, rd_new_eq, own_new_eq, mp_newm_eq]
  refine Both.dec (fun hlt => ?_) (fun hlt => ?_) <;> simp (disch := (first | omega | (simp only [size_new, size_newm, size_wr, size_wrm] <;> omega) | fail)) only [go_sem, Nat.reduceBEq, Nat.reduceAdd, Nat.reduceMul, Nat.reduceLeDiff, ↓reduceIte, rd_new_lt, own_new_lt, mp_new_lt, rd_newm_lt, own_newm_lt, mp_newm_lt, rd_wr_ne, own_wr_ne, mp_wr_ne, rd_wrm_ne, own_wrm_ne, mp_wrm_ne, rd_new_eq, own_new_eq, mp_newm_eq]
  · have hj2 : j < n := by omega
    obtain ⟨y, hy⟩ : ∃ y, l[j]? = some y := ⟨_, List.getElem?_eq_getElem (by omega)⟩
    obtain ⟨b, o, c', lb, hsl, hrd, hjn, hlb⟩ := RdS.get h1 (i := j) (j := 0) (x := i64 y) (by omega) (by rw [Nat.mul_one, Nat.add_zero, List.getElem?_map, hy]; rfl)
    injection hsl with hsl _ _
    subst hsl
    obtain ⟨hy0, hy1⟩ := hl y (List.mem_of_getElem? hy)
    refine ⟨⟨by omega, by omega⟩, ?_⟩
    rw [Nat.add_zero, Nat.mul_one] at hlb
    simp (disch := (first | omega | (simp only [size_new, size_newm, size_wr, size_wrm] <;> omega) | fail)) only [go_sem, Nat.reduceBEq, Nat.reduceAdd, Nat.reduceMul, Nat.reduceLeDiff, ↓reduceIte, rd_new_lt, own_new_lt, mp_new_lt, rd_newm_lt, own_newm_lt, mp_newm_lt, rd_wr_ne, own_wr_ne, mp_wr_ne, rd_wrm_ne, own_wrm_ne, mp_wrm_ne, rd_new_eq, own_new_eq, mp_newm_eq, hrd, Int.toNat_natCast, Nat.mul_one, hlb, rd_of_own d1, wrap_low]
    have hly := lowN_lt y
    refine ExtV.mk (fun w => add64_run _ (lowN y) 0 (by omega) hlo hly w) ?_
    have e63 := shr63 hy0 hy1
    have hn63 : ¬ ((63 : Int) < 0) := by omega
    generalize htk : totS (l.take j) = t at *
    have ew : IntKind.i64.wrap (IntKind.i64.wrap (t.1 + y.fdiv (2 ^ min (Int.toNat 63) 64)) + IntKind.i64.wrap (((t.2 + lowN y + 0) / 18446744073709551616 : Nat) : Int)) = (addS t y).1 := by
      rw [e63, wrap_add, Nat.add_zero, wrap64 (n := (((t.2 + lowN y) / 18446744073709551616 : Nat) : Int)) (by omega) (by omega)]
      rfl
    have ew2 : (t.2 + lowN y + 0) % 18446744073709551616 = (addS t y).2 := rfl
    simp (disch := (first | omega | (simp only [size_new, size_newm, size_wr, size_wrm] <;> omega) | fail)) only [go_sem, Nat.reduceBEq, Nat.reduceAdd, Nat.reduceMul, Nat.reduceLeDiff, ↓reduceIte, rd_new_lt, own_new_lt, mp_new_lt, rd_newm_lt, own_newm_lt, mp_newm_lt, rd_wr_ne, own_wr_ne, mp_wr_ne, rd_wrm_ne, own_wrm_ne, mp_wrm_ne, rd_new_eq, own_new_eq, mp_newm_eq, rd_of_own d1, if_neg hn63, ew, ew2, d1]
    rw [wrap64 (n := (j : Int) + 1) (by omega) (by omega)]
    have htk2 : totS (l.take (j + 1)) = addS t y := by
      rw [List.take_add_one, hy, ← htk]
      exact totS_snoc _ _
    refine ⟨n - (j + 1), by omega, f1.then ((Ext.refl (fun z => z = H.size + 1) _).wr (fun _ => rfl) _) (fun z hz => by omega), e1.wr (fun _ => rfl) _, j + 1, rfl, by omega, ?_, ?_, rfl⟩
    · rw [htk2]; exact Nat.mod_lt _ (by omega)
    · rw [htk2]; exact own_wr_same d1
  · have hj2 : j = n := by omega
    subst hj2
    rw [List.take_of_length_le (by omega)] at d1
    have b2 := own_wr_same (l := [i64 (totS l).1, u64 (totS l).2]) b1
    simp (disch := (first | omega | (simp only [size_new, size_newm, size_wr, size_wrm] <;> omega) | fail)) only [go_sem, Nat.reduceBEq, Nat.reduceAdd, Nat.reduceMul, Nat.reduceLeDiff, ↓reduceIte, rd_new_lt, own_new_lt, mp_new_lt, rd_newm_lt, own_newm_lt, mp_newm_lt, rd_wr_ne, own_wr_ne, mp_wr_ne, rd_wrm_ne, own_wrm_ne, mp_wrm_ne, rd_new_eq, own_new_eq, mp_newm_eq, rd_of_own d1, b1, rd_of_own b2]
    exact ⟨rfl, f1.then ((Ext.refl (fun z => z = H.size) _).wr (fun _ => rfl) _) (fun z hz => by omega)⟩

end Go.Proofs.YtkcpoiploighiaaDoor
