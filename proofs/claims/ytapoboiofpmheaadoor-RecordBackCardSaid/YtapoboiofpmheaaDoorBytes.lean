/-
  Plain law: numbers as bytes, the highest one first; records as bytes.
-/
import Derived.Test.YtapoboiofpmheaaDoorRecs
set_option linter.unusedVariables false
set_option linter.unusedSimpArgs false
namespace Go.Proofs.YtapoboiofpmheaaDoor
open Go

/-- A number as m bytes. -/
def be : Nat → Nat → List Nat
  | 0, _ => []
  | m + 1, n => be m (n / 256) ++ [n % 256]
/-- Bytes as a number. -/
def val (l : List Nat) : Nat := l.foldl (fun n c => n * 256 + c) 0

theorem be_len : ∀ m n, (be m n).length = m := by
  intro m
  induction m with
  | zero => intro n; rfl
  | succ m ih => intro n; rw [be, List.length_append, ih]; rfl
theorem be_lt : ∀ m n, ∀ c ∈ be m n, c < 256 := by
  intro m
  induction m with
  | zero => intro n c h; cases h
  | succ m ih =>
    intro n c h
    rw [be] at h
    rcases List.mem_append.1 h with h | h
    · exact ih _ c h
    · rw [List.mem_singleton] at h; subst h; omega
theorem val_snoc (l : List Nat) (c : Nat) : val (l ++ [c]) = val l * 256 + c := by unfold val; rw [List.foldl_append]; rfl
theorem val_be : ∀ m n, val (be m n) = n % 256 ^ m := by
  intro m
  induction m with
  | zero => intro n; simp [be, val, Nat.mod_one]
  | succ m ih =>
    intro n
    rw [be, val_snoc, ih, Nat.pow_succ, Nat.mul_comm (256 ^ m) 256, Nat.mod_mul]
    omega
theorem val_take {l : List Nat} {i c : Nat} (h : l[i]? = some c) : val (l.take (i + 1)) = val (l.take i) * 256 + c := by
  rw [List.take_add_one, h]; exact val_snoc _ _
theorem val_take_lt {l : List Nat} (h : ∀ c ∈ l, c < 256) : ∀ i, val (l.take i) < 256 ^ i := by
  intro i
  induction i with
  | zero => simp [val]
  | succ i ih =>
    cases hx : l[i]? with
    | none =>
      rw [List.take_of_length_le (by have := List.getElem?_eq_none_iff.1 hx; omega), ← List.take_of_length_le (i := i) (List.getElem?_eq_none_iff.1 hx), Nat.pow_succ]
      have : 0 < 256 ^ i := Nat.pow_pos (by omega)
      omega
    | some c =>
      rw [val_take hx, Nat.pow_succ]
      have := h c (List.mem_of_getElem? hx)
      omega
theorem val_lt {l : List Nat} (h : ∀ c ∈ l, c < 256) : val l < 256 ^ l.length := by
  have := val_take_lt h l.length
  rwa [List.take_length] at this

/-- A record. -/
structure R where
  op : Int
  a : Nat
  b : Nat
  k : Int
  deriving DecidableEq

/-- What can be of it. -/
def R.clean (r : R) : R := if 0 ≤ r.op ∧ r.op ≤ 10 then ⟨r.op, clA r.op.toNat r.a, clB r.op.toNat r.b, clK r.op.toNat r.k⟩ else ⟨0, 0, 0, 0⟩
def R.Ok (r : R) : Prop := RecOk r.a r.b r.k ∧ -9223372036854775808 ≤ r.op ∧ r.op ≤ 9223372036854775807

theorem R.clean_range (r : R) : 0 ≤ r.clean.op ∧ r.clean.op ≤ 10 := by
  unfold R.clean
  split
  · assumption
  · simp

theorem R.clean_right {r : R} (h : r.Ok) : RightR r.clean.op.toNat r.clean.a r.clean.b r.clean.k := by
  obtain ⟨⟨h1, h2, h3, h4⟩, h5, h6⟩ := h
  unfold R.clean
  split
  · rename_i hc
    unfold clA clB clK
    refine ⟨by simp only; omega, ?_, ?_, ?_, ?_, fun e => by rw [e]; rfl, fun e => by rw [e]; rfl, fun e => by rw [e]; rfl⟩ <;> simp only <;> split <;> omega
  · exact ⟨by simp, by simp, by simp, by simp, by simp, fun _ => rfl, fun _ => rfl, fun _ => rfl⟩

theorem clA_clA (i a : Nat) : clA i (clA i a) = clA i a := by unfold clA; split <;> simp_all
theorem clB_clB (i a : Nat) : clB i (clB i a) = clB i a := by unfold clB; split <;> simp_all
theorem clK_clK (i : Nat) (a : Int) : clK i (clK i a) = clK i a := by unfold clK; split <;> simp_all

theorem R.clean_clean (r : R) : r.clean.clean = r.clean := by
  by_cases h : 0 ≤ r.op ∧ r.op ≤ 10
  · have e : r.clean = ⟨r.op, clA r.op.toNat r.a, clB r.op.toNat r.b, clK r.op.toNat r.k⟩ := if_pos h
    rw [e]
    unfold R.clean
    rw [if_pos (by exact h)]
    simp only [clA_clA, clB_clB, clK_clK]
  · have e : r.clean = ⟨0, 0, 0, 0⟩ := if_neg h
    rw [e]
    rfl

theorem R.clean_ok {r : R} (h : r.Ok) : r.clean.Ok := by
  have h1 := R.clean_right h
  have h2 := R.clean_range r
  exact ⟨⟨h1.la, h1.lb, h1.k0, h1.k1⟩, by omega, by omega⟩

/-- A number of 64 bits with a sign as one without, and back. -/
def toU (k : Int) : Nat := (k % 18446744073709551616).toNat
def toS (n : Nat) : Int := if n < 9223372036854775808 then n else (n : Int) - 18446744073709551616
theorem toS_toU {k : Int} (h0 : -9223372036854775808 ≤ k) (h1 : k ≤ 9223372036854775807) : toS (toU k) = k := by
  unfold toS toU; split <;> omega
theorem toU_lt (k : Int) : toU k < 18446744073709551616 := by unfold toU; omega
theorem toS_le {n : Nat} (h : n < 18446744073709551616) : -9223372036854775808 ≤ toS n ∧ toS n ≤ 9223372036854775807 := by unfold toS; split <;> omega

/-- A record that can be, as bytes. -/
def recB (r : R) : List Nat := [r.op.toNat] ++ be 4 r.a ++ be 4 r.b ++ be 8 (toU r.k)
theorem recB_len (r : R) : (recB r).length = 17 := by simp [recB, be_len]
theorem recB_lt {r : R} (h : 0 ≤ r.op ∧ r.op ≤ 10) : ∀ c ∈ recB r, c < 256 := by
  intro c hc
  unfold recB at hc
  rcases List.mem_append.1 hc with hc | hc
  · rcases List.mem_append.1 hc with hc | hc
    · rcases List.mem_append.1 hc with hc | hc
      · rw [List.mem_singleton] at hc; omega
      · exact be_lt _ _ c hc
    · exact be_lt _ _ c hc
  · exact be_lt _ _ c hc

/-- Bytes as a record. -/
def fromB (l : List Nat) : R := ⟨(l.getD 0 0 : Nat), val ((l.drop 1).take 4), val ((l.drop 5).take 4), toS (val ((l.drop 9).take 8))⟩

theorem fromB_recB {r : R} (h : r.Ok) (hr : 0 ≤ r.op ∧ r.op ≤ 10) (t : List Nat) : fromB (recB r ++ t) = r := by
  obtain ⟨⟨h1, h2, h3, h4⟩, _, _⟩ := h
  have e1 : ((recB r ++ t).drop 1).take 4 = be 4 r.a := by
    unfold recB
    rw [show [r.op.toNat] ++ be 4 r.a ++ be 4 r.b ++ be 8 (toU r.k) ++ t = [r.op.toNat] ++ (be 4 r.a ++ (be 4 r.b ++ be 8 (toU r.k) ++ t)) by simp]
    rw [List.drop_append_of_le_length (by simp), show ([r.op.toNat] : List Nat).drop 1 = [] from rfl, List.nil_append]
    exact List.take_left' (be_len 4 _)
  have e2 : ((recB r ++ t).drop 5).take 4 = be 4 r.b := by
    unfold recB
    rw [show [r.op.toNat] ++ be 4 r.a ++ be 4 r.b ++ be 8 (toU r.k) ++ t = ([r.op.toNat] ++ be 4 r.a) ++ (be 4 r.b ++ (be 8 (toU r.k) ++ t)) by simp]
    rw [List.drop_left' (by simp [be_len])]
    exact List.take_left' (be_len 4 _)
  have e3 : ((recB r ++ t).drop 9).take 8 = be 8 (toU r.k) := by
    unfold recB
    rw [show [r.op.toNat] ++ be 4 r.a ++ be 4 r.b ++ be 8 (toU r.k) ++ t = ([r.op.toNat] ++ be 4 r.a ++ be 4 r.b) ++ (be 8 (toU r.k) ++ t) by simp]
    rw [List.drop_left' (by simp [be_len])]
    exact List.take_left' (be_len 8 _)
  have e4 : (recB r ++ t).getD 0 0 = r.op.toNat := by simp [recB]
  unfold fromB
  have p4 : (256 : Nat) ^ 4 = 4294967296 := by decide
  have p8 : (256 : Nat) ^ 8 = 18446744073709551616 := by decide
  have hu := toU_lt r.k
  rw [e1, e2, e3, e4, val_be, val_be, val_be, p4, p8, Nat.mod_eq_of_lt h1, Nat.mod_eq_of_lt h2, Nat.mod_eq_of_lt hu, toS_toU h3 h4]
  cases r
  simp only [R.mk.injEq, and_true]
  simp at hr
  omega

/-- Bytes as records. -/
def decL : Nat → List Nat → List R
  | 0, _ => []
  | f + 1, l => if 17 ≤ l.length then (fromB l).clean :: decL f (l.drop 17) else if l = [] then [] else [⟨0, 0, 0, 0⟩]
def decR (l : List Nat) : List R := decL (l.length + 1) l

theorem decL_fuel : ∀ f g l, l.length < f → l.length < g → decL f l = decL g l := by
  intro f
  induction f with
  | zero => intro g l h; omega
  | succ f ih =>
    intro g l h1 h2
    cases g with
    | zero => omega
    | succ g =>
      unfold decL
      split
      · rw [ih g (l.drop 17) (by rw [List.length_drop]; omega) (by rw [List.length_drop]; omega)]
      · rfl
theorem decR_step {l : List Nat} (h : 17 ≤ l.length) : decR l = (fromB l).clean :: decR (l.drop 17) := by
  unfold decR
  rw [decL, if_pos h, decL_fuel _ ((l.drop 17).length + 1) _ (by rw [List.length_drop]; omega) (by omega)]
theorem decR_nil : decR [] = [] := rfl
theorem decR_rest {l : List Nat} (h : ¬ 17 ≤ l.length) (h0 : l ≠ []) : decR l = [⟨0, 0, 0, 0⟩] := by
  unfold decR
  rw [decL, if_neg h, if_neg h0]

def encR (rs : List R) : List Nat := rs.flatMap fun r => recB r.clean
theorem encR_len (rs : List R) : (encR rs).length = 17 * rs.length := by
  induction rs with
  | nil => rfl
  | cons r rs ih => unfold encR at *; rw [List.flatMap_cons, List.length_append, ih, recB_len, List.length_cons]; omega
theorem encR_lt {rs : List R} : ∀ c ∈ encR rs, c < 256 := fun c hc => by
  obtain ⟨r, _, h⟩ := List.mem_flatMap.1 hc
  exact recB_lt (R.clean_range r) c h

theorem dec_enc : ∀ rs : List R, (∀ r ∈ rs, r.Ok) → decR (encR rs) = rs.map R.clean := by
  intro rs
  induction rs with
  | nil => intro _; rfl
  | cons r rs ih =>
    intro h
    have e : encR (r :: rs) = recB r.clean ++ encR rs := rfl
    have hr := h r (List.mem_cons_self ..)
    rw [e, decR_step (by rw [List.length_append, recB_len]; omega), fromB_recB (R.clean_ok hr) (R.clean_range r), R.clean_clean, List.drop_left' (recB_len _), ih (fun x hx => h x (List.mem_cons_of_mem _ hx))]
    rfl

theorem decR_len : ∀ n l, l.length ≤ n → (decR l).length = (l.length + 16) / 17 := by
  intro n
  induction n with
  | zero => intro l h; have : l = [] := List.length_eq_zero_iff.1 (by omega); subst this; rfl
  | succ n ih =>
    intro l h
    by_cases h1 : 17 ≤ l.length
    · rw [decR_step h1, List.length_cons, ih (l.drop 17) (by rw [List.length_drop]; omega), List.length_drop]
      omega
    · by_cases h0 : l = []
      · subst h0; rfl
      · rw [decR_rest h1 h0]
        have : 0 < l.length := List.length_pos_iff.2 h0
        show 1 = _
        omega

theorem fromB_ok {l : List Nat} (h : ∀ c ∈ l, c < 256) : (fromB l).Ok := by
  have hd : ∀ i, ∀ c ∈ l.drop i, c < 256 := fun i c hc => h c (List.mem_of_mem_drop hc)
  have l1 := val_take_lt (hd 1) 4
  have l2 := val_take_lt (hd 5) 4
  have l3 := val_take_lt (hd 9) 8
  have e1 : (256 : Nat) ^ 4 = 4294967296 := by decide
  have e2 : (256 : Nat) ^ 8 = 18446744073709551616 := by decide
  have e3 : l.getD 0 0 < 256 := by
    cases l with
    | nil => simp
    | cons c r => exact h c (List.mem_cons_self ..)
  obtain ⟨k0, k1⟩ := toS_le (n := val ((l.drop 9).take 8)) (by omega)
  exact ⟨⟨by show val _ < _; omega, by show val _ < _; omega, k0, k1⟩, by show _ ≤ ((l.getD 0 0 : Nat) : Int); omega, by show ((l.getD 0 0 : Nat) : Int) ≤ _; omega⟩

theorem decR_ok : ∀ n (l : List Nat), l.length ≤ n → (∀ c ∈ l, c < 256) → ∀ r ∈ decR l, r.Ok ∧ r.clean = r := by
  intro n
  have zok : R.Ok ⟨0, 0, 0, 0⟩ := ⟨⟨by decide, by decide, by decide, by decide⟩, by decide, by decide⟩
  induction n with
  | zero => intro l h hl r hr; have : l = [] := List.length_eq_zero_iff.1 (by omega); subst this; cases hr
  | succ n ih =>
    intro l h hl r hr
    by_cases h1 : 17 ≤ l.length
    · rw [decR_step h1] at hr
      rcases List.mem_cons.1 hr with rfl | hr
      · exact ⟨R.clean_ok (fromB_ok hl), R.clean_clean _⟩
      · exact ih (l.drop 17) (by rw [List.length_drop]; omega) (fun c hc => hl c (List.mem_of_mem_drop hc)) r hr
    · by_cases h0 : l = []
      · subst h0; cases hr
      · rw [decR_rest h1 h0, List.mem_singleton] at hr
        subst hr
        exact ⟨zok, rfl⟩

end Go.Proofs.YtapoboiofpmheaaDoor
