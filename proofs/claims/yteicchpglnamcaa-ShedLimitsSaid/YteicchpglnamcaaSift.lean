/-
  The package sift, and the document's answers for it: places above and below, and how deep places are.
-/
import Derived.Test.YteicchpglnamcaaNames
set_option linter.unusedVariables false
set_option linter.unusedSimpArgs false
namespace Go.Proofs.Yteicchpglnamcaa
open Go Go.Vc

/-- May a place have so many children? -/
def FineD (d : Int) : Prop := 2 ≤ d ∧ d ≤ 16
instance (d : Int) : Decidable (FineD d) := inferInstanceAs (Decidable (_ ∧ _))

theorem sift_fine_spec (d : Int) (H : Hp) : CallH Try.prog n_sift_fine [i64 d] H fun v H' => Post (v = .bool (decide (FineD d)) ∧ H = H') := by
  refine c_sift_fine ⟨rfl, ?_⟩
  simp (disch := (first | omega | (simp only [size_new, size_newm, size_wr, size_wrm] <;> omega) | fail)) only [go_sem, Nat.reduceBEq, Nat.reduceAdd, Nat.reduceMul, Nat.reduceLeDiff, ↓reduceIte, rd_new_lt, own_new_lt, mp_new_lt, rd_newm_lt, own_newm_lt, mp_newm_lt, rd_wr_ne, own_wr_ne, mp_wr_ne, rd_wrm_ne, own_wrm_ne, mp_wrm_ne, rd_new_eq, own_new_eq, mp_newm_eq, s_sift_fine]
  refine Both.dec (fun h => ?_) (fun h => ?_) <;> simp (disch := (first | omega | (simp only [size_new, size_newm, size_wr, size_wrm] <;> omega) | fail)) only [go_sem, Nat.reduceBEq, Nat.reduceAdd, Nat.reduceMul, Nat.reduceLeDiff, ↓reduceIte, rd_new_lt, own_new_lt, mp_new_lt, rd_newm_lt, own_newm_lt, mp_newm_lt, rd_wr_ne, own_wr_ne, mp_wr_ne, rd_wrm_ne, own_wrm_ne, mp_wrm_ne, rd_new_eq, own_new_eq, mp_newm_eq]
  · exact ⟨congrArg Value.bool (by rw [decide_eq_decide]; unfold FineD; omega), rfl⟩
  · exact ⟨congrArg Value.bool (decide_eq_false (by unfold FineD; omega)).symm, rfl⟩

theorem ref07_Right_spec (d : Int) (H : Hp) : CallH Try.prog n_ref07_Right [i64 d] H fun v H' => Post (v = .bool (decide (FineD d)) ∧ H = H') := by
  refine c_ref07_Right ⟨rfl, ?_⟩
  simp (disch := (first | omega | (simp only [size_new, size_newm, size_wr, size_wrm] <;> omega) | fail)) only [go_sem, Nat.reduceBEq, Nat.reduceAdd, Nat.reduceMul, Nat.reduceLeDiff, ↓reduceIte, rd_new_lt, own_new_lt, mp_new_lt, rd_newm_lt, own_newm_lt, mp_newm_lt, rd_wr_ne, own_wr_ne, mp_wr_ne, rd_wrm_ne, own_wrm_ne, mp_wrm_ne, rd_new_eq, own_new_eq, mp_newm_eq, s_ref07_Right]
  refine Both.dec (fun h => ?_) (fun h => ?_) <;> simp (disch := (first | omega | (simp only [size_new, size_newm, size_wr, size_wrm] <;> omega) | fail)) only [go_sem, Nat.reduceBEq, Nat.reduceAdd, Nat.reduceMul, Nat.reduceLeDiff, ↓reduceIte, rd_new_lt, own_new_lt, mp_new_lt, rd_newm_lt, own_newm_lt, mp_newm_lt, rd_wr_ne, own_wr_ne, mp_wr_ne, rd_wrm_ne, own_wrm_ne, mp_wrm_ne, rd_new_eq, own_new_eq, mp_newm_eq]
  · exact ⟨congrArg Value.bool (by rw [decide_eq_decide]; unfold FineD; omega), rfl⟩
  · exact ⟨congrArg Value.bool (decide_eq_false (by unfold FineD; omega)).symm, rfl⟩

/-- The place above one. -/
def parentF (d i : Int) : Option Int := if FineD d ∧ 1 ≤ i then some ((i - 1) / d) else none
/-- A number, or none: as two results. -/
def twoF (o : Option Int) : Value := match o with | some n => .tuple [i64 n, .bool true].toArray | none => .tuple [i64 0, .bool false].toArray

theorem parentF_lt {d i p : Int} (h : parentF d i = some p) : 0 ≤ p ∧ p < i := by
  unfold parentF at h
  split at h
  · rename_i hc
    injection h with h
    have h0 := hc.1.1
    have : 0 ≤ (i - 1) / d := Int.ediv_nonneg (by omega) (by omega)
    have h1 : (i - 1) / d ≤ i - 1 := Int.ediv_le_self _ (by omega)
    omega
  · cases h

theorem quo_wrap {d i : Int} (hd : 2 ≤ d) (h1 : 1 ≤ i) (hi : i ≤ 9223372036854775807) : IntKind.i64.wrap ((i - 1).tdiv d) = (i - 1) / d := by
  rw [Int.tdiv_eq_ediv_of_nonneg (by omega)]
  have : 0 ≤ (i - 1) / d := Int.ediv_nonneg (by omega) (by omega)
  have h1 : (i - 1) / d ≤ i - 1 := Int.ediv_le_self _ (by omega)
  exact wrap64 (by omega) (by omega)

theorem sift_Parent_spec (d i : Int) (hi : i ≤ 9223372036854775807) (H : Hp) : CallH Try.prog n_sift_Parent [i64 d, i64 i] H fun v H' => Post (v = twoF (parentF d i) ∧ H = H') := by
  refine c_sift_Parent ⟨rfl, ?_⟩
  simp (disch := (first | omega | (simp only [size_new, size_newm, size_wr, size_wrm] <;> omega) | fail)) only [go_sem, Nat.reduceBEq, Nat.reduceAdd, Nat.reduceMul, Nat.reduceLeDiff, ↓reduceIte, rd_new_lt, own_new_lt, mp_new_lt, rd_newm_lt, own_newm_lt, mp_newm_lt, rd_wr_ne, own_wr_ne, mp_wr_ne, rd_wrm_ne, own_wrm_ne, mp_wrm_ne, rd_new_eq, own_new_eq, mp_newm_eq, s_sift_Parent]
  refine (sift_fine_spec d H).mono ?_
  rintro _ _ ⟨rfl, rfl⟩
  simp (disch := (first | omega | (simp only [size_new, size_newm, size_wr, size_wrm] <;> omega) | fail)) only [go_sem, Nat.reduceBEq, Nat.reduceAdd, Nat.reduceMul, Nat.reduceLeDiff, ↓reduceIte, rd_new_lt, own_new_lt, mp_new_lt, rd_newm_lt, own_newm_lt, mp_newm_lt, rd_wr_ne, own_wr_ne, mp_wr_ne, rd_wrm_ne, own_wrm_ne, mp_wrm_ne, rd_new_eq, own_new_eq, mp_newm_eq]
  refine Both.dec (fun hf => ?_) (fun hf => ?_) <;> simp (disch := (first | omega | (simp only [size_new, size_newm, size_wr, size_wrm] <;> omega) | fail)) only [go_sem, Nat.reduceBEq, Nat.reduceAdd, Nat.reduceMul, Nat.reduceLeDiff, ↓reduceIte, rd_new_lt, own_new_lt, mp_new_lt, rd_newm_lt, own_newm_lt, mp_newm_lt, rd_wr_ne, own_wr_ne, mp_wr_ne, rd_wrm_ne, own_wrm_ne, mp_wrm_ne, rd_new_eq, own_new_eq, mp_newm_eq]
  · refine Both.dec (fun h1 => ?_) (fun h1 => ?_) <;> simp (disch := (first | omega | (simp only [size_new, size_newm, size_wr, size_wrm] <;> omega) | fail)) only [go_sem, Nat.reduceBEq, Nat.reduceAdd, Nat.reduceMul, Nat.reduceLeDiff, ↓reduceIte, rd_new_lt, own_new_lt, mp_new_lt, rd_newm_lt, own_newm_lt, mp_newm_lt, rd_wr_ne, own_wr_ne, mp_wr_ne, rd_wrm_ne, own_wrm_ne, mp_wrm_ne, rd_new_eq, own_new_eq, mp_newm_eq]
    · exact ⟨by rw [parentF, if_neg (by omega)]; rfl, rfl⟩
    · have h0 := hf.1
      rw [if_neg (by omega), wrap64 (n := i - 1) (by omega) (by omega), quo_wrap hf.1 (by omega) hi]
      simp (disch := (first | omega | (simp only [size_new, size_newm, size_wr, size_wrm] <;> omega) | fail)) only [go_sem, Nat.reduceBEq, Nat.reduceAdd, Nat.reduceMul, Nat.reduceLeDiff, ↓reduceIte, rd_new_lt, own_new_lt, mp_new_lt, rd_newm_lt, own_newm_lt, mp_newm_lt, rd_wr_ne, own_wr_ne, mp_wr_ne, rd_wrm_ne, own_wrm_ne, mp_wrm_ne, rd_new_eq, own_new_eq, mp_newm_eq]
      exact ⟨by rw [parentF, if_pos ⟨hf, by omega⟩]; rfl, rfl⟩
  · exact ⟨by rw [parentF, if_neg (fun h => hf h.1)]; rfl, rfl⟩

theorem ref07_Parent_spec (d i : Int) (hi : i ≤ 9223372036854775807) (H : Hp) : CallH Try.prog n_ref07_Parent [i64 d, i64 i] H fun v H' => Post (v = twoF (parentF d i) ∧ H = H') := by
  refine c_ref07_Parent ⟨rfl, ?_⟩
  simp (disch := (first | omega | (simp only [size_new, size_newm, size_wr, size_wrm] <;> omega) | fail)) only [go_sem, Nat.reduceBEq, Nat.reduceAdd, Nat.reduceMul, Nat.reduceLeDiff, ↓reduceIte, rd_new_lt, own_new_lt, mp_new_lt, rd_newm_lt, own_newm_lt, mp_newm_lt, rd_wr_ne, own_wr_ne, mp_wr_ne, rd_wrm_ne, own_wrm_ne, mp_wrm_ne, rd_new_eq, own_new_eq, mp_newm_eq, s_ref07_Parent]
  refine (ref07_Right_spec d H).mono ?_
  rintro _ _ ⟨rfl, rfl⟩
  simp (disch := (first | omega | (simp only [size_new, size_newm, size_wr, size_wrm] <;> omega) | fail)) only [go_sem, Nat.reduceBEq, Nat.reduceAdd, Nat.reduceMul, Nat.reduceLeDiff, ↓reduceIte, rd_new_lt, own_new_lt, mp_new_lt, rd_newm_lt, own_newm_lt, mp_newm_lt, rd_wr_ne, own_wr_ne, mp_wr_ne, rd_wrm_ne, own_wrm_ne, mp_wrm_ne, rd_new_eq, own_new_eq, mp_newm_eq]
  refine Both.dec (fun hf => ?_) (fun hf => ?_) <;> simp (disch := (first | omega | (simp only [size_new, size_newm, size_wr, size_wrm] <;> omega) | fail)) only [go_sem, Nat.reduceBEq, Nat.reduceAdd, Nat.reduceMul, Nat.reduceLeDiff, ↓reduceIte, rd_new_lt, own_new_lt, mp_new_lt, rd_newm_lt, own_newm_lt, mp_newm_lt, rd_wr_ne, own_wr_ne, mp_wr_ne, rd_wrm_ne, own_wrm_ne, mp_wrm_ne, rd_new_eq, own_new_eq, mp_newm_eq]
  · refine Both.dec (fun h1 => ?_) (fun h1 => ?_) <;> simp (disch := (first | omega | (simp only [size_new, size_newm, size_wr, size_wrm] <;> omega) | fail)) only [go_sem, Nat.reduceBEq, Nat.reduceAdd, Nat.reduceMul, Nat.reduceLeDiff, ↓reduceIte, rd_new_lt, own_new_lt, mp_new_lt, rd_newm_lt, own_newm_lt, mp_newm_lt, rd_wr_ne, own_wr_ne, mp_wr_ne, rd_wrm_ne, own_wrm_ne, mp_wrm_ne, rd_new_eq, own_new_eq, mp_newm_eq]
    · exact ⟨by rw [parentF, if_neg (by omega)]; rfl, rfl⟩
    · have h0 := hf.1
      rw [if_neg (by omega), wrap64 (n := i - 1) (by omega) (by omega), quo_wrap hf.1 (by omega) hi]
      simp (disch := (first | omega | (simp only [size_new, size_newm, size_wr, size_wrm] <;> omega) | fail)) only [go_sem, Nat.reduceBEq, Nat.reduceAdd, Nat.reduceMul, Nat.reduceLeDiff, ↓reduceIte, rd_new_lt, own_new_lt, mp_new_lt, rd_newm_lt, own_newm_lt, mp_newm_lt, rd_wr_ne, own_wr_ne, mp_wr_ne, rd_wrm_ne, own_wrm_ne, mp_wrm_ne, rd_new_eq, own_new_eq, mp_newm_eq]
      exact ⟨by rw [parentF, if_pos ⟨hf, by omega⟩]; rfl, rfl⟩
  · exact ⟨by rw [parentF, if_neg (fun h => hf h.1)]; rfl, rfl⟩

/-- A place below one. -/
def childF (d i k : Int) : Option Int := if FineD d ∧ 0 ≤ i ∧ i ≤ 1099511627776 ∧ 1 ≤ k ∧ k ≤ d then some (d * i + k) else none

theorem childF_bound {d i k : Int} (hf : FineD d) (h0 : 0 ≤ i) (h1 : i ≤ 1099511627776) (hk : 1 ≤ k) (hd : k ≤ d) : 0 ≤ d * i ∧ d * i ≤ 17592186044416 := by
  obtain ⟨a, b⟩ := hf
  refine ⟨Int.mul_nonneg (by omega) h0, ?_⟩
  have : d * i ≤ 16 * i := Int.mul_le_mul_of_nonneg_right b h0
  omega

theorem sift_Child_spec (d i k : Int) (H : Hp) : CallH Try.prog n_sift_Child [i64 d, i64 i, i64 k] H fun v H' => Post (v = twoF (childF d i k) ∧ H = H') := by
  refine c_sift_Child ⟨rfl, ?_⟩
  simp (disch := (first | omega | (simp only [size_new, size_newm, size_wr, size_wrm] <;> omega) | fail)) only [go_sem, Nat.reduceBEq, Nat.reduceAdd, Nat.reduceMul, Nat.reduceLeDiff, ↓reduceIte, rd_new_lt, own_new_lt, mp_new_lt, rd_newm_lt, own_newm_lt, mp_newm_lt, rd_wr_ne, own_wr_ne, mp_wr_ne, rd_wrm_ne, own_wrm_ne, mp_wrm_ne, rd_new_eq, own_new_eq, mp_newm_eq, s_sift_Child]
  refine (sift_fine_spec d H).mono ?_
  rintro _ _ ⟨rfl, rfl⟩
  simp (disch := (first | omega | (simp only [size_new, size_newm, size_wr, size_wrm] <;> omega) | fail)) only [go_sem, Nat.reduceBEq, Nat.reduceAdd, Nat.reduceMul, Nat.reduceLeDiff, ↓reduceIte, rd_new_lt, own_new_lt, mp_new_lt, rd_newm_lt, own_newm_lt, mp_newm_lt, rd_wr_ne, own_wr_ne, mp_wr_ne, rd_wrm_ne, own_wrm_ne, mp_wrm_ne, rd_new_eq, own_new_eq, mp_newm_eq]
  refine Both.dec (fun hf => ?_) (fun hf => ?_) <;> simp (disch := (first | omega | (simp only [size_new, size_newm, size_wr, size_wrm] <;> omega) | fail)) only [go_sem, Nat.reduceBEq, Nat.reduceAdd, Nat.reduceMul, Nat.reduceLeDiff, ↓reduceIte, rd_new_lt, own_new_lt, mp_new_lt, rd_newm_lt, own_newm_lt, mp_newm_lt, rd_wr_ne, own_wr_ne, mp_wr_ne, rd_wrm_ne, own_wrm_ne, mp_wrm_ne, rd_new_eq, own_new_eq, mp_newm_eq]
  · refine Both.dec (fun h1 => ?_) (fun h1 => ?_) <;> simp (disch := (first | omega | (simp only [size_new, size_newm, size_wr, size_wrm] <;> omega) | fail)) only [go_sem, Nat.reduceBEq, Nat.reduceAdd, Nat.reduceMul, Nat.reduceLeDiff, ↓reduceIte, rd_new_lt, own_new_lt, mp_new_lt, rd_newm_lt, own_newm_lt, mp_newm_lt, rd_wr_ne, own_wr_ne, mp_wr_ne, rd_wrm_ne, own_wrm_ne, mp_wrm_ne, rd_new_eq, own_new_eq, mp_newm_eq]
    · exact ⟨by rw [childF, if_neg (by omega)]; rfl, rfl⟩
    · refine Both.dec (fun h2 => ?_) (fun h2 => ?_) <;> simp (disch := (first | omega | (simp only [size_new, size_newm, size_wr, size_wrm] <;> omega) | fail)) only [go_sem, Nat.reduceBEq, Nat.reduceAdd, Nat.reduceMul, Nat.reduceLeDiff, ↓reduceIte, rd_new_lt, own_new_lt, mp_new_lt, rd_newm_lt, own_newm_lt, mp_newm_lt, rd_wr_ne, own_wr_ne, mp_wr_ne, rd_wrm_ne, own_wrm_ne, mp_wrm_ne, rd_new_eq, own_new_eq, mp_newm_eq]
      · exact ⟨by rw [childF, if_neg (by omega)]; rfl, rfl⟩
      · refine Both.dec (fun h3 => ?_) (fun h3 => ?_) <;> simp (disch := (first | omega | (simp only [size_new, size_newm, size_wr, size_wrm] <;> omega) | fail)) only [go_sem, Nat.reduceBEq, Nat.reduceAdd, Nat.reduceMul, Nat.reduceLeDiff, ↓reduceIte, rd_new_lt, own_new_lt, mp_new_lt, rd_newm_lt, own_newm_lt, mp_newm_lt, rd_wr_ne, own_wr_ne, mp_wr_ne, rd_wrm_ne, own_wrm_ne, mp_wrm_ne, rd_new_eq, own_new_eq, mp_newm_eq]
        · exact ⟨by rw [childF, if_neg (by omega)]; rfl, rfl⟩
        · refine Both.dec (fun h4 => ?_) (fun h4 => ?_) <;> simp (disch := (first | omega | (simp only [size_new, size_newm, size_wr, size_wrm] <;> omega) | fail)) only [go_sem, Nat.reduceBEq, Nat.reduceAdd, Nat.reduceMul, Nat.reduceLeDiff, ↓reduceIte, rd_new_lt, own_new_lt, mp_new_lt, rd_newm_lt, own_newm_lt, mp_newm_lt, rd_wr_ne, own_wr_ne, mp_wr_ne, rd_wrm_ne, own_wrm_ne, mp_wrm_ne, rd_new_eq, own_new_eq, mp_newm_eq]
          · exact ⟨by rw [childF, if_neg (by omega)]; rfl, rfl⟩
          · have hb := childF_bound (i := i) hf (by omega) (by omega) (by omega : 1 ≤ k) (by omega : k ≤ d)
            have hd := hf.2
            rw [wrap64 (n := d * i) (by omega) (by omega), wrap64 (by omega) (by omega)]
            exact ⟨by rw [childF, if_pos ⟨hf, by omega, by omega, by omega, by omega⟩]; rfl, rfl⟩
  · exact ⟨by rw [childF, if_neg (fun h => hf h.1)]; rfl, rfl⟩

/-- How often one can go up from a place. -/
def upF (d : Int) : Nat → Int → Nat
  | 0, _ => 0
  | m + 1, i => match parentF d i with | some p => upF d m p + 1 | none => 0

theorem upF_more (d : Int) : ∀ (m m' : Nat) (i : Int), i.toNat ≤ m → i.toNat ≤ m' → upF d m i = upF d m' i := by
  intro m
  induction m with
  | zero =>
    intro m' i h _
    have hn : parentF d i = none := by unfold parentF; rw [if_neg (by omega)]
    cases m' <;> simp [upF, hn]
  | succ m ih =>
    intro m' i h h'
    cases hp : parentF d i with
    | none => cases m' <;> simp [upF, hp]
    | some p =>
      have hb := parentF_lt hp
      cases m' with
      | zero => omega
      | succ m' => simp only [upF, hp]; rw [ih m' p (by omega) (by omega)]

def depthF (d n : Int) : Int := if n ≤ 1099511627776 then (upF d n.toNat (n - 1) : Nat) else 0

theorem upF_le (d : Int) : ∀ (m : Nat) (i : Int), upF d m i ≤ m := by
  intro m
  induction m with
  | zero => intro i; simp [upF]
  | succ m ih =>
    intro i
    unfold upF
    split
    · have := ih ‹_›; omega
    · omega

theorem ref07_Depth_spec (d : Int) : ∀ (m : Nat) (n : Int) (H : Hp), n.toNat ≤ m → CallH Try.prog n_ref07_Depth [i64 d, i64 n] H fun v H' => Post (v = i64 (depthF d n) ∧ H = H') := by
  intro m
  induction m with
  | zero =>
    intro n H hm
    refine c_ref07_Depth ⟨rfl, ?_⟩
    simp (disch := (first | omega | (simp only [size_new, size_newm, size_wr, size_wrm] <;> omega) | fail)) only [go_sem, Nat.reduceBEq, Nat.reduceAdd, Nat.reduceMul, Nat.reduceLeDiff, ↓reduceIte, rd_new_lt, own_new_lt, mp_new_lt, rd_newm_lt, own_newm_lt, mp_newm_lt, rd_wr_ne, own_wr_ne, mp_wr_ne, rd_wrm_ne, own_wrm_ne, mp_wrm_ne, rd_new_eq, own_new_eq, mp_newm_eq, s_ref07_Depth]
    refine (ref07_Right_spec d H).mono ?_
    rintro _ _ ⟨rfl, rfl⟩
    simp (disch := (first | omega | (simp only [size_new, size_newm, size_wr, size_wrm] <;> omega) | fail)) only [go_sem, Nat.reduceBEq, Nat.reduceAdd, Nat.reduceMul, Nat.reduceLeDiff, ↓reduceIte, rd_new_lt, own_new_lt, mp_new_lt, rd_newm_lt, own_newm_lt, mp_newm_lt, rd_wr_ne, own_wr_ne, mp_wr_ne, rd_wrm_ne, own_wrm_ne, mp_wrm_ne, rd_new_eq, own_new_eq, mp_newm_eq]
    have h0 : depthF d n = 0 := by
      unfold depthF
      rw [if_pos (by omega), show n.toNat = 0 by omega]
      rfl
    refine Both.dec (fun hf => ?_) (fun hf => ?_) <;> simp (disch := (first | omega | (simp only [size_new, size_newm, size_wr, size_wrm] <;> omega) | fail)) only [go_sem, Nat.reduceBEq, Nat.reduceAdd, Nat.reduceMul, Nat.reduceLeDiff, ↓reduceIte, rd_new_lt, own_new_lt, mp_new_lt, rd_newm_lt, own_newm_lt, mp_newm_lt, rd_wr_ne, own_wr_ne, mp_wr_ne, rd_wrm_ne, own_wrm_ne, mp_wrm_ne, rd_new_eq, own_new_eq, mp_newm_eq]
    · refine Both.dec (fun h1 => ?_) (fun h1 => ?_) <;> simp (disch := (first | omega | (simp only [size_new, size_newm, size_wr, size_wrm] <;> omega) | fail)) only [go_sem, Nat.reduceBEq, Nat.reduceAdd, Nat.reduceMul, Nat.reduceLeDiff, ↓reduceIte, rd_new_lt, own_new_lt, mp_new_lt, rd_newm_lt, own_newm_lt, mp_newm_lt, rd_wr_ne, own_wr_ne, mp_wr_ne, rd_wrm_ne, own_wrm_ne, mp_wrm_ne, rd_new_eq, own_new_eq, mp_newm_eq]
      · exact ⟨by rw [h0]; rfl, rfl⟩
      · omega
    · exact ⟨by rw [h0]; rfl, rfl⟩
  | succ m ih =>
    intro n H hm
    refine c_ref07_Depth ⟨rfl, ?_⟩
    simp (disch := (first | omega | (simp only [size_new, size_newm, size_wr, size_wrm] <;> omega) | fail)) only [go_sem, Nat.reduceBEq, Nat.reduceAdd, Nat.reduceMul, Nat.reduceLeDiff, ↓reduceIte, rd_new_lt, own_new_lt, mp_new_lt, rd_newm_lt, own_newm_lt, mp_newm_lt, rd_wr_ne, own_wr_ne, mp_wr_ne, rd_wrm_ne, own_wrm_ne, mp_wrm_ne, rd_new_eq, own_new_eq, mp_newm_eq, s_ref07_Depth]
    refine (ref07_Right_spec d H).mono ?_
    rintro _ _ ⟨rfl, rfl⟩
    simp (disch := (first | omega | (simp only [size_new, size_newm, size_wr, size_wrm] <;> omega) | fail)) only [go_sem, Nat.reduceBEq, Nat.reduceAdd, Nat.reduceMul, Nat.reduceLeDiff, ↓reduceIte, rd_new_lt, own_new_lt, mp_new_lt, rd_newm_lt, own_newm_lt, mp_newm_lt, rd_wr_ne, own_wr_ne, mp_wr_ne, rd_wrm_ne, own_wrm_ne, mp_wrm_ne, rd_new_eq, own_new_eq, mp_newm_eq]
    refine Both.dec (fun hf => ?_) (fun hf => ?_) <;> simp (disch := (first | omega | (simp only [size_new, size_newm, size_wr, size_wrm] <;> omega) | fail)) only [go_sem, Nat.reduceBEq, Nat.reduceAdd, Nat.reduceMul, Nat.reduceLeDiff, ↓reduceIte, rd_new_lt, own_new_lt, mp_new_lt, rd_newm_lt, own_newm_lt, mp_newm_lt, rd_wr_ne, own_wr_ne, mp_wr_ne, rd_wrm_ne, own_wrm_ne, mp_wrm_ne, rd_new_eq, own_new_eq, mp_newm_eq]
    · refine Both.dec (fun h1 => ?_) (fun h1 => ?_) <;> simp (disch := (first | omega | (simp only [size_new, size_newm, size_wr, size_wrm] <;> omega) | fail)) only [go_sem, Nat.reduceBEq, Nat.reduceAdd, Nat.reduceMul, Nat.reduceLeDiff, ↓reduceIte, rd_new_lt, own_new_lt, mp_new_lt, rd_newm_lt, own_newm_lt, mp_newm_lt, rd_wr_ne, own_wr_ne, mp_wr_ne, rd_wrm_ne, own_wrm_ne, mp_wrm_ne, rd_new_eq, own_new_eq, mp_newm_eq]
      · have h0 : depthF d n = 0 := by
          unfold depthF
          have hn : parentF d (n - 1) = none := by unfold parentF; rw [if_neg (by omega)]
          rw [if_pos (by omega)]
          cases n.toNat <;> simp [upF, hn]
        exact ⟨by rw [h0]; rfl, rfl⟩
      · refine Both.dec (fun h2 => ?_) (fun h2 => ?_) <;> simp (disch := (first | omega | (simp only [size_new, size_newm, size_wr, size_wrm] <;> omega) | fail)) only [go_sem, Nat.reduceBEq, Nat.reduceAdd, Nat.reduceMul, Nat.reduceLeDiff, ↓reduceIte, rd_new_lt, own_new_lt, mp_new_lt, rd_newm_lt, own_newm_lt, mp_newm_lt, rd_wr_ne, own_wr_ne, mp_wr_ne, rd_wrm_ne, own_wrm_ne, mp_wrm_ne, rd_new_eq, own_new_eq, mp_newm_eq]
        · exact ⟨by rw [depthF, if_neg (by omega)]; rfl, rfl⟩
        · rw [wrap64 (n := n - 1) (by omega) (by omega)]
          refine (ref07_Parent_spec d (n - 1) (by omega) H).mono ?_
          rintro _ _ ⟨rfl, rfl⟩
          obtain ⟨p, hp⟩ : ∃ p, parentF d (n - 1) = some p := ⟨_, by unfold parentF; rw [if_pos ⟨hf, by omega⟩]⟩
          have hb := parentF_lt hp
          rw [hp]
          simp (disch := (first | omega | (simp only [size_new, size_newm, size_wr, size_wrm] <;> omega) | fail)) only [go_sem, Nat.reduceBEq, Nat.reduceAdd, Nat.reduceMul, Nat.reduceLeDiff, ↓reduceIte, rd_new_lt, own_new_lt, mp_new_lt, rd_newm_lt, own_newm_lt, mp_newm_lt, rd_wr_ne, own_wr_ne, mp_wr_ne, rd_wrm_ne, own_wrm_ne, mp_wrm_ne, rd_new_eq, own_new_eq, mp_newm_eq, twoF]
          rw [wrap64 (n := p + 1) (by omega) (by omega)]
          refine (ih (p + 1) H (by omega)).mono ?_
          rintro _ _ ⟨rfl, rfl⟩
          simp (disch := (first | omega | (simp only [size_new, size_newm, size_wr, size_wrm] <;> omega) | fail)) only [go_sem, Nat.reduceBEq, Nat.reduceAdd, Nat.reduceMul, Nat.reduceLeDiff, ↓reduceIte, rd_new_lt, own_new_lt, mp_new_lt, rd_newm_lt, own_newm_lt, mp_newm_lt, rd_wr_ne, own_wr_ne, mp_wr_ne, rd_wrm_ne, own_wrm_ne, mp_wrm_ne, rd_new_eq, own_new_eq, mp_newm_eq]
          have hd : depthF d n = 1 + depthF d (p + 1) := by
            unfold depthF
            rw [if_pos (by omega), if_pos (by omega), show p + 1 - 1 = p by omega]
            obtain ⟨q, hq⟩ : ∃ q, n.toNat = q + 1 := ⟨n.toNat - 1, by omega⟩
            rw [hq]
            simp only [upF, hp]
            rw [upF_more d q (p + 1).toNat p (by omega) (by omega)]
            omega
          have hle : 0 ≤ depthF d (p + 1) ∧ depthF d (p + 1) ≤ 1099511627776 := by
            unfold depthF
            rw [if_pos (by omega)]
            have := upF_le d (p + 1).toNat (p + 1 - 1)
            omega
          rw [wrap64 (by omega) (by omega), ← hd]
          exact ⟨rfl, rfl⟩
    · have h0 : depthF d n = 0 := by
        unfold depthF
        have hn : parentF d (n - 1) = none := by unfold parentF; rw [if_neg (fun h => hf h.1)]
        split
        · cases n.toNat <;> simp [upF, hn]
        · rfl
      exact ⟨by rw [h0]; rfl, rfl⟩

theorem upF_some {d i p : Int} (h : parentF d i = some p) (m : Nat) (hm : i.toNat ≤ m) : upF d m i = upF d p.toNat p + 1 := by
  have hb := parentF_lt h
  obtain ⟨q, hq⟩ : ∃ q, m = q + 1 := ⟨m - 1, by omega⟩
  subst hq
  simp only [upF, h]
  rw [upF_more d q p.toNat p (by omega) (by omega)]

theorem sift_Depth_spec (d n : Int) (H : Hp) : CallH Try.prog n_sift_Depth [i64 d, i64 n] H fun v H' => Post (v = i64 (depthF d n) ∧ H = H') := by
  refine c_sift_Depth ⟨rfl, ?_⟩
  simp (disch := (first | omega | (simp only [size_new, size_newm, size_wr, size_wrm] <;> omega) | fail)) only [go_sem, Nat.reduceBEq, Nat.reduceAdd, Nat.reduceMul, Nat.reduceLeDiff, ↓reduceIte, rd_new_lt, own_new_lt, mp_new_lt, rd_newm_lt, own_newm_lt, mp_newm_lt, rd_wr_ne, own_wr_ne, mp_wr_ne, rd_wrm_ne, own_wrm_ne, mp_wrm_ne, rd_new_eq, own_new_eq, mp_newm_eq, s_sift_Depth]
  have h0 : n < 2 → depthF d n = 0 := by
    intro hn2
    unfold depthF
    have hn : parentF d (n - 1) = none := by unfold parentF; rw [if_neg (by omega)]
    split
    · cases n.toNat <;> simp [upF, hn]
    · rfl
  refine Both.dec (fun h1 => ?_) (fun h1 => ?_) <;> simp (disch := (first | omega | (simp only [size_new, size_newm, size_wr, size_wrm] <;> omega) | fail)) only [go_sem, Nat.reduceBEq, Nat.reduceAdd, Nat.reduceMul, Nat.reduceLeDiff, ↓reduceIte, rd_new_lt, own_new_lt, mp_new_lt, rd_newm_lt, own_newm_lt, mp_newm_lt, rd_wr_ne, own_wr_ne, mp_wr_ne, rd_wrm_ne, own_wrm_ne, mp_wrm_ne, rd_new_eq, own_new_eq, mp_newm_eq]
  · exact ⟨by rw [h0 h1]; rfl, rfl⟩
  · refine Both.dec (fun h2 => ?_) (fun h2 => ?_) <;> simp (disch := (first | omega | (simp only [size_new, size_newm, size_wr, size_wrm] <;> omega) | fail)) only [go_sem, Nat.reduceBEq, Nat.reduceAdd, Nat.reduceMul, Nat.reduceLeDiff, ↓reduceIte, rd_new_lt, own_new_lt, mp_new_lt, rd_newm_lt, own_newm_lt, mp_newm_lt, rd_wr_ne, own_wr_ne, mp_wr_ne, rd_wrm_ne, own_wrm_ne, mp_wrm_ne, rd_new_eq, own_new_eq, mp_newm_eq]
    · exact ⟨by rw [depthF, if_neg (by omega)]; rfl, rfl⟩
    · rw [wrap64 (n := n - 1) (by omega) (by omega)]
      refine (sift_Parent_spec d (n - 1) (by omega) H).mono ?_
      rintro _ _ ⟨rfl, rfl⟩
      have key : ∀ o : Option Int, twoF o = .tuple [i64 (o.getD 0), .bool o.isSome].toArray := by intro o; cases o <;> rfl
      rw [key]
      simp (disch := (first | omega | (simp only [size_new, size_newm, size_wr, size_wrm] <;> omega) | fail)) only [go_sem, Nat.reduceBEq, Nat.reduceAdd, Nat.reduceMul, Nat.reduceLeDiff, ↓reduceIte, rd_new_lt, own_new_lt, mp_new_lt, rd_newm_lt, own_newm_lt, mp_newm_lt, rd_wr_ne, own_wr_ne, mp_wr_ne, rd_wrm_ne, own_wrm_ne, mp_wrm_ne, rd_new_eq, own_new_eq, mp_newm_eq]
      have hd : depthF d n = (upF d n.toNat (n - 1) : Nat) := by unfold depthF; rw [if_pos (by omega)]
      refine LoopV.intro (fun m env H1 => ∃ (o : Option Int) (deep : Nat), env = [(0, i64 d), (5, i64 deep), (6, i64 (o.getD 0)), (7, .bool o.isSome)] ∧ H1 = H ∧
        (∀ p, o = some p → 0 ≤ p ∧ p ≤ 1099511627776) ∧ m = (match o with | some p => p.toNat + 1 | none => 0) ∧ deep ≤ n.toNat ∧
        depthF d n = (deep + (match o with | some p => upF d p.toNat p + 1 | none => 0) : Nat)) (match parentF d (n - 1) with | some p => p.toNat + 1 | none => 0) ⟨parentF d (n - 1), 0, rfl, rfl, ?_, rfl, by omega, ?_⟩ ?_
      · intro p hp
        have := parentF_lt hp
        omega
      · rw [hd]
        cases hp : parentF d (n - 1) with
        | none => cases n.toNat <;> simp [upF, hp]
        | some p => rw [upF_some hp _ (by omega)]; simp
      · rintro m env H1 ⟨o, deep, rfl, rfl, hb, rfl, hdeep, hsum⟩
        cases o with
        | none =>
          simp (disch := (first | omega | (simp only [size_new, size_newm, size_wr, size_wrm] <;> omega) | fail)) only [go_sem, Nat.reduceBEq, Nat.reduceAdd, Nat.reduceMul, Nat.reduceLeDiff, ↓reduceIte, rd_new_lt, own_new_lt, mp_new_lt, rd_newm_lt, own_newm_lt, mp_newm_lt, rd_wr_ne, own_wr_ne, mp_wr_ne, rd_wrm_ne, own_wrm_ne, mp_wrm_ne, rd_new_eq, own_new_eq, mp_newm_eq, Option.isSome_none]
          refine ⟨congrArg i64 ?_, rfl⟩
          rw [hsum]
          simp
        | some p =>
          have hp := hb p rfl
          simp (disch := (first | omega | (simp only [size_new, size_newm, size_wr, size_wrm] <;> omega) | fail)) only [go_sem, Nat.reduceBEq, Nat.reduceAdd, Nat.reduceMul, Nat.reduceLeDiff, ↓reduceIte, rd_new_lt, own_new_lt, mp_new_lt, rd_newm_lt, own_newm_lt, mp_newm_lt, rd_wr_ne, own_wr_ne, mp_wr_ne, rd_wrm_ne, own_wrm_ne, mp_wrm_ne, rd_new_eq, own_new_eq, mp_newm_eq, Option.isSome_some, Option.getD_some]
          have hle : deep + (upF d p.toNat p + 1) ≤ n.toNat := by
            have := upF_le d n.toNat (n - 1)
            rw [hd] at hsum
            simp only [Int.natCast_inj] at hsum
            omega
          refine (sift_Parent_spec d p (by omega) H1).mono ?_
          rintro _ _ ⟨rfl, rfl⟩
          rw [key, wrap64 (n := (deep : Int) + 1) (by omega) (by omega)]
          simp (disch := (first | omega | (simp only [size_new, size_newm, size_wr, size_wrm] <;> omega) | fail)) only [go_sem, Nat.reduceBEq, Nat.reduceAdd, Nat.reduceMul, Nat.reduceLeDiff, ↓reduceIte, rd_new_lt, own_new_lt, mp_new_lt, rd_newm_lt, own_newm_lt, mp_newm_lt, rd_wr_ne, own_wr_ne, mp_wr_ne, rd_wrm_ne, own_wrm_ne, mp_wrm_ne, rd_new_eq, own_new_eq, mp_newm_eq]
          refine ⟨_, ?_, parentF d p, deep + 1, rfl, trivial, ?_, rfl, by omega, ?_⟩
          · cases hq : parentF d p with
            | none => simp
            | some q => have := parentF_lt hq; simp only; omega
          · intro q hq
            have := parentF_lt hq
            omega
          · rw [hsum]
            cases hq : parentF d p with
            | none =>
              have hz : upF d p.toNat p = 0 := by cases p.toNat <;> simp [upF, hq]
              simp only [hz]
            | some q => simp only [upF_some hq _ (Nat.le_refl _)]; omega

theorem parent_of_child {d i j : Int} (hd : 2 ≤ d) (hi : 0 ≤ i) (h1 : 1 ≤ j) (h2 : j ≤ d) : (d * i + j - 1) / d = i := by
  rw [show d * i + j - 1 = (j - 1) + d * i by omega, Int.add_mul_ediv_left _ _ (by omega), Int.ediv_eq_zero_of_lt (by omega) (by omega)]
  omega

theorem twoF_eq (o : Option Int) : twoF o = .tuple [i64 (o.getD 0), .bool o.isSome].toArray := by cases o <;> rfl

end Go.Proofs.Yteicchpglnamcaa
