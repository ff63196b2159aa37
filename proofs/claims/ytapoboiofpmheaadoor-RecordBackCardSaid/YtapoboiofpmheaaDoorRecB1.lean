/-
  Records as bytes: what the program and the document do, byte by byte.
-/
import Derived.Test.YtapoboiofpmheaaDoorRef18c
import Derived.Test.YtapoboiofpmheaaDoorBytes
set_option linter.unusedVariables false
set_option linter.unusedSimpArgs false
namespace Go.Proofs.YtapoboiofpmheaaDoor
open Go Go.Vc

def u8s (ns : List Nat) : List Value := ns.map fun (n : Nat) => Value.int .u8 (n : Int)
theorem ones_u8s (ns : List Nat) : allOne (u8s ns) := fun v hv => by
  obtain ⟨x, _, rfl⟩ := List.mem_map.1 hv
  rfl
theorem u8s_app (a b : List Nat) : u8s (a ++ b) = u8s a ++ u8s b := List.map_append
theorem u8s_len (a : List Nat) : (u8s a).length = a.length := List.length_map ..

theorem wrapU8_mod (n : Nat) : IntKind.u8.wrap (n : Int) = ((n % 256 : Nat) : Int) := by
  have e : (2 ^ IntKind.u8.bits : Int) = 256 := rfl
  unfold IntKind.wrap
  simp only [e, IntKind.signed, Bool.false_and]
  rw [if_neg (by simp)]; omega
theorem wrapU64_toU (k : Int) : IntKind.u64.wrap k = (toU k : Int) := by
  have e : (2 ^ IntKind.u64.bits : Int) = 18446744073709551616 := rfl
  unfold IntKind.wrap toU
  simp only [e, IntKind.signed, Bool.false_and]
  rw [if_neg (by simp)]; omega
theorem wrapI64_toS {n : Nat} (h : n < 18446744073709551616) : IntKind.i64.wrap (n : Int) = toS n := by
  have e : (2 ^ IntKind.i64.bits : Int) = 18446744073709551616 := rfl
  have e' : (2 ^ (IntKind.i64.bits - 1) : Int) = 9223372036854775808 := rfl
  unfold IntKind.wrap toS
  simp only [e, e', IntKind.signed, Bool.true_and, decide_eq_true_eq]
  split <;> split <;> omega

theorem shr_byte (x q : Nat) (hq : q < 8) : IntKind.u8.wrap (Int.fdiv (x : Int) (2 ^ (min (((8 * q : Nat) : Int)).toNat 64))) = ((x / 256 ^ q % 256 : Nat) : Int) := by
  have e1 : min (((8 * q : Nat) : Int)).toNat 64 = 8 * q := by
    rw [Int.toNat_natCast]
    exact Nat.min_eq_left (by omega)
  have e2 : ((2 : Int) ^ (8 * q)) = ((256 ^ q : Nat) : Int) := by
    rw [show (256 : Nat) = 2 ^ 8 from rfl, ← Nat.pow_mul]
    exact (Int.natCast_pow 2 (8 * q)).symm
  rw [e1, e2, ← Int.ofNat_fdiv, wrapU8_mod]

theorem record_put_spec {H : Hp} {v : Value} {n : Nat} {xs : List Value} {fp : Option Nat} (h : Sl H 1 v n xs fp) (hn : n ≤ 100000) {x : Nat} (hx : x < 18446744073709551616) {m : Nat} (hm : m ≤ 8) :
    CallH Tryd.prog n_record_put [v, u64 x, i64 m] H fun v' H' => Post (∃ fp', Sl H' 1 v' (n + m) (xs ++ u8s (be m x)) fp' ∧ Ext (fun z => fp = some z) H H' ∧ (fp' = fp ∨ ∃ b, fp' = some b ∧ H.size ≤ b)) := by
  refine c_record_put ⟨rfl, ?_⟩
  simp (disch := (first | omega | (simp only [size_new, size_newm, size_wr, size_wrm] <;> omega) | fail)) only [go_sem, Nat.reduceBEq, Nat.reduceAdd, Nat.reduceMul, Nat.reduceLeDiff, ↓reduceIte, rd_new_lt, own_new_lt, mp_new_lt, rd_newm_lt, own_newm_lt, mp_newm_lt, rd_wr_ne, own_wr_ne, mp_wr_ne, rd_wrm_ne, own_wrm_ne, mp_wrm_ne, rd_new_eq, own_new_eq, mp_newm_eq, s_record_put]
  rw [wrap64 (n := (m : Int) - 1) (by omega) (by omega)]
  refine LoopV.intro (fun r env H' => ∃ (v' : Value) (j : Int) (fp' : Option Nat), (r : Int) = j + 1 ∧ r ≤ m ∧ env = [(0, v'), (1, u64 x), (7, i64 j)] ∧ Sl H' 1 v' (n + (m - r)) (xs ++ u8s (be (m - r) (x / 256 ^ r))) fp' ∧ Ext (fun z => fp = some z) H H' ∧ (fp' = fp ∨ ∃ b, fp' = some b ∧ H.size ≤ b)) m
    ⟨v, (m : Int) - 1, fp, by omega, Nat.le_refl _, rfl, by rw [Nat.sub_self]; simpa [u8s, be] using h, Ext.refl _ _, .inl rfl⟩ ?_
  rintro r env H1 ⟨v', j, fp', hr, hrm, rfl, s1, e1, hfp⟩
  simp (disch := (first | omega | (simp only [size_new, size_newm, size_wr, size_wrm] <;> omega) | fail)) only [go_sem, Nat.reduceBEq, Nat.reduceAdd, Nat.reduceMul, Nat.reduceLeDiff, ↓reduceIte, rd_new_lt, own_new_lt, mp_new_lt, rd_newm_lt, own_newm_lt, mp_newm_lt, rd_wr_ne, own_wr_ne, mp_wr_ne, rd_wrm_ne, own_wrm_ne, mp_wrm_ne, rd_new_eq, own_new_eq, mp_newm_eq]
  refine Both.dec (fun hj => ?_) (fun hj => ?_) <;> simp (disch := (first | omega | (simp only [size_new, size_newm, size_wr, size_wrm] <;> omega) | fail)) only [go_sem, Nat.reduceBEq, Nat.reduceAdd, Nat.reduceMul, Nat.reduceLeDiff, ↓reduceIte, rd_new_lt, own_new_lt, mp_new_lt, rd_newm_lt, own_newm_lt, mp_newm_lt, rd_wr_ne, own_wr_ne, mp_wr_ne, rd_wrm_ne, own_wrm_ne, mp_wrm_ne, rd_new_eq, own_new_eq, mp_newm_eq]
  · obtain ⟨q, rfl⟩ : ∃ q : Nat, j = q := ⟨j.toNat, by omega⟩
    obtain rfl : r = q + 1 := by omega
    rw [wrap64 (n := 8 * (q : Int)) (by omega) (by omega), show (8 : Int) * (q : Int) = ((8 * q : Nat) : Int) by omega]
    have hneg : ¬ (((8 * q : Nat) : Int) < 0) := by omega
    simp (disch := (first | omega | (simp only [size_new, size_newm, size_wr, size_wrm] <;> omega) | fail)) only [go_sem, Nat.reduceBEq, Nat.reduceAdd, Nat.reduceMul, Nat.reduceLeDiff, ↓reduceIte, rd_new_lt, own_new_lt, mp_new_lt, rd_newm_lt, own_newm_lt, mp_newm_lt, rd_wr_ne, own_wr_ne, mp_wr_ne, rd_wrm_ne, own_wrm_ne, mp_wrm_ne, rd_new_eq, own_new_eq, mp_newm_eq, if_neg hneg, shr_byte x q (by omega)]
    have f2 : Fresh H1 (H1.new 5 [.int .u8 ((x / 256 ^ q % 256 : Nat) : Int)]) := (Ext.refl _ _).new _ _
    refine Sl.append (s1.ext f2 (fun _ _ h => h)) (Sl.lit_at (size := 1) (n := 1) (xs := u8s [x / 256 ^ q % 256]) rfl rfl).rd rfl (ones_u8s _) (by omega) ?_
    intro v2 H2 fp2 s2 e2 hfp2
    simp (disch := (first | omega | (simp only [size_new, size_newm, size_wr, size_wrm] <;> omega) | fail)) only [go_sem, Nat.reduceBEq, Nat.reduceAdd, Nat.reduceMul, Nat.reduceLeDiff, ↓reduceIte, rd_new_lt, own_new_lt, mp_new_lt, rd_newm_lt, own_newm_lt, mp_newm_lt, rd_wr_ne, own_wr_ne, mp_wr_ne, rd_wrm_ne, own_wrm_ne, mp_wrm_ne, rd_new_eq, own_new_eq, mp_newm_eq]
    rw [wrap64 (n := (q : Int) - 1) (by omega) (by omega)]
    have hsz : H.size ≤ (H1.new 5 [.int .u8 ((x / 256 ^ q % 256 : Nat) : Int)]).size := Nat.le_trans e1.size f2.size
    refine ⟨q, by omega, v2, (q : Int) - 1, fp2, by omega, by omega, rfl, ?_, ?_, ?_⟩
    · have eb : be (m - q) (x / 256 ^ q) = be (m - (q + 1)) (x / 256 ^ (q + 1)) ++ [x / 256 ^ q % 256] := by
        rw [show m - q = (m - (q + 1)) + 1 by omega, be, Nat.div_div_eq_div_mul, ← Nat.pow_succ]
      rw [eb, u8s_app, ← List.append_assoc, show n + (m - q) = n + (m - (q + 1)) + 1 by omega]
      exact s2
    · refine (e1.trans (f2.mono fun _ _ h => h.elim)).trans' e2 fun z hz hs => ?_
      rcases hfp with h1 | ⟨b, h1, h2⟩
      · rw [← h1]; exact hs
      · rw [h1] at hs; injection hs with hs; omega
    · rcases hfp2 with h1 | ⟨b, h1, h2, h3⟩
      · rw [h1]; exact hfp
      · exact .inr ⟨b, h1, Nat.le_trans hsz h2⟩
  · obtain rfl : r = 0 := by omega
    simp only [Nat.sub_zero, Nat.pow_zero, Nat.div_one] at s1
    exact ⟨fp', s1, e1, hfp⟩

theorem RdS.byte {H : Hp} {a : Option Addr} {n c : Nat} {ns : List Nat} (h : RdS H 1 (.slice a n c) n (u8s ns)) {i x : Nat} (hx : ns[i]? = some x) :
    i < n ∧ ∃ b o lb, a = some ⟨b, o, none⟩ ∧ H.rd b = some lb ∧ lb[o + i]? = some (.int .u8 (x : Int)) := by
  obtain ⟨hl, hv⟩ := h
  rw [u8s_len, Nat.mul_one] at hl
  have hi : i < ns.length := by
    rcases Nat.lt_or_ge i ns.length with h | h
    · exact h
    · rw [List.getElem?_eq_none h] at hx; cases hx
  refine ⟨by omega, ?_⟩
  rcases hv with ⟨hn, _⟩ | ⟨b, o, c2, l, hs, hrd, hle, ht⟩
  · omega
  · injection hs with hs1 hs2 hs3
    refine ⟨b, o, l, hs1, hrd, ?_⟩
    have h7 : (u8s ns)[i]? = some (.int .u8 (x : Int)) := by unfold u8s; rw [List.getElem?_map, hx]; rfl
    rw [← ht, List.getElem?_take] at h7
    split at h7
    · rw [List.getElem?_drop] at h7; exact h7
    · cases h7

theorem or_byte {v x : Nat} (hv : v * 256 < 18446744073709551616) (hx : x < 256) : IntKind.u64.wrap ((BitVec.ofInt 64 ((v * 256 : Nat) : Int) ||| BitVec.ofInt 64 (x : Int)).toNat : Int) = ((v * 256 + x : Nat) : Int) := by
  rw [BitVec.toNat_or]
  have e1 : (BitVec.ofInt 64 ((v * 256 : Nat) : Int)).toNat = v * 256 := by
    rw [BitVec.ofInt_natCast, BitVec.toNat_ofNat]; omega
  have e2 : (BitVec.ofInt 64 (x : Int)).toNat = x := by
    rw [BitVec.ofInt_natCast, BitVec.toNat_ofNat]; omega
  rw [e1, e2]
  have e3 : v * 256 ||| x = v * 256 + x := by
    have := Nat.two_pow_add_eq_or_of_lt (i := 8) (b := x) (by omega) v
    rw [show (2 : Nat) ^ 8 = 256 from rfl] at this
    rw [Nat.mul_comm v 256, ← this]
  rw [e3]
  exact wrapU64 (by omega) (by omega)

theorem val_small {ns : List Nat} (hns : ∀ c ∈ ns, c < 256) {i : Nat} (hi : i < 8) : val (ns.take i) * 256 < 18446744073709551616 := by
  have h1 := val_take_lt hns i
  have h2 : 256 ^ i ≤ 256 ^ 7 := Nat.pow_le_pow_right (by omega) (by omega)
  have h3 : (256 : Nat) ^ 7 = 72057594037927936 := by decide
  omega

theorem record_take_spec {H : Hp} {a : Option Addr} {n c : Nat} {ns : List Nat} (h : RdS H 1 (.slice a n c) n (u8s ns)) (hns : ∀ c ∈ ns, c < 256) (hn : n ≤ 8) :
    CallH Tryd.prog n_record_take [.slice a n c] H fun v H' => Post (v = u64 (val ns) ∧ H' = H) := by
  have hl : ns.length = n := by have := h.1; rw [u8s_len] at this; omega
  refine c_record_take ⟨rfl, ?_⟩
  simp (disch := (first | omega | (simp only [size_new, size_newm, size_wr, size_wrm] <;> omega) | fail)) only [go_sem, Nat.reduceBEq, Nat.reduceAdd, Nat.reduceMul, Nat.reduceLeDiff, ↓reduceIte, rd_new_lt, own_new_lt, mp_new_lt, rd_newm_lt, own_newm_lt, mp_newm_lt, rd_wr_ne, own_wr_ne, mp_wr_ne, rd_wrm_ne, own_wrm_ne, mp_wrm_ne, rd_new_eq, own_new_eq, mp_newm_eq, s_record_take]
  refine LoopV.intro (fun m env H' => H' = H ∧ ∃ i : Nat, m = n - i ∧ i ≤ n ∧ env = [(3, u64 (val (ns.take i))), (6, .slice a n c), (7, i64 n), (8, i64 i)]) n ⟨rfl, 0, by omega, by omega, rfl⟩ ?_
  rintro m env _ ⟨rfl, i, hm, hi, rfl⟩
  simp (disch := (first | omega | (simp only [size_new, size_newm, size_wr, size_wrm] <;> omega) | fail)) only [go_sem, Nat.reduceBEq, Nat.reduceAdd, Nat.reduceMul, Nat.reduceLeDiff, ↓reduceIte, rd_new_lt, own_new_lt, mp_new_lt, rd_newm_lt, own_newm_lt, mp_newm_lt, rd_wr_ne, own_wr_ne, mp_wr_ne, rd_wrm_ne, own_wrm_ne, mp_wrm_ne, rd_new_eq, own_new_eq, mp_newm_eq]
  refine Both.dec (fun h1 => ?_) (fun h1 => ?_) <;> simp (disch := (first | omega | (simp only [size_new, size_newm, size_wr, size_wrm] <;> omega) | fail)) only [go_sem, Nat.reduceBEq, Nat.reduceAdd, Nat.reduceMul, Nat.reduceLeDiff, ↓reduceIte, rd_new_lt, own_new_lt, mp_new_lt, rd_newm_lt, own_newm_lt, mp_newm_lt, rd_wr_ne, own_wr_ne, mp_wr_ne, rd_wrm_ne, own_wrm_ne, mp_wrm_ne, rd_new_eq, own_new_eq, mp_newm_eq]
  · obtain ⟨x, hx⟩ : ∃ x, ns[i]? = some x := ⟨_, List.getElem?_eq_getElem (by omega)⟩
    obtain ⟨_, b, o, lb, rfl, hrd, hlb⟩ := RdS.byte h hx
    refine ⟨⟨by omega, by omega⟩, ?_⟩
    simp (disch := (first | omega | (simp only [size_new, size_newm, size_wr, size_wrm] <;> omega) | fail)) only [go_sem, Nat.reduceBEq, Nat.reduceAdd, Nat.reduceMul, Nat.reduceLeDiff, ↓reduceIte, rd_new_lt, own_new_lt, mp_new_lt, rd_newm_lt, own_newm_lt, mp_newm_lt, rd_wr_ne, own_wr_ne, mp_wr_ne, rd_wrm_ne, own_wrm_ne, mp_wrm_ne, rd_new_eq, own_new_eq, mp_newm_eq, Int.toNat_natCast, Nat.mul_one, hrd, hlb]
    have hxl := hns x (List.mem_of_getElem? hx)
    have hv := val_small hns (i := i) (by omega)
    have h8 : ¬ ((8 : Int) < 0) := by decide
    have hsh : IntKind.u64.wrap ((val (ns.take i) : Int) * 2 ^ (min (Int.toNat 8) 64)) = ((val (ns.take i) * 256 : Nat) : Int) := by
      have : (2 : Int) ^ (min (Int.toNat 8) 64) = 256 := rfl
      rw [this]
      exact (wrapU64 (by omega) (by omega)).trans (by omega)
    have hxw : IntKind.u64.wrap (x : Int) = x := wrapU64 (by omega) (by omega)
    simp (disch := (first | omega | (simp only [size_new, size_newm, size_wr, size_wrm] <;> omega) | fail)) only [go_sem, Nat.reduceBEq, Nat.reduceAdd, Nat.reduceMul, Nat.reduceLeDiff, ↓reduceIte, rd_new_lt, own_new_lt, mp_new_lt, rd_newm_lt, own_newm_lt, mp_newm_lt, rd_wr_ne, own_wr_ne, mp_wr_ne, rd_wrm_ne, own_wrm_ne, mp_wrm_ne, rd_new_eq, own_new_eq, mp_newm_eq, if_neg h8, hsh, hxw]
    rw [wrap64 (n := (i : Int) + 1) (by omega) (by omega)]
    refine ⟨n - (i + 1), by omega, trivial, i + 1, rfl, by omega, ?_⟩
    have hob := (or_byte hv hxl).trans (congrArg (fun z : Nat => (z : Int)) (val_take hx).symm)
    exact congrArg (fun z : Int => ([((3 : Nat), Value.int .u64 z), (6, Value.slice (some ⟨b, o, none⟩) n c), (7, i64 n), (8, i64 ((i + 1 : Nat) : Int))] : List (Nat × Value))) hob
  · have : i = n := by omega
    subst this
    refine ⟨?_, rfl⟩
    rw [List.take_of_length_le (by omega)]
    rfl

theorem ref18_number_spec {H : Hp} {a : Option Addr} {n c : Nat} {ns : List Nat} (h : RdS H 1 (.slice a n c) n (u8s ns)) (hns : ∀ c ∈ ns, c < 256) (hn : n ≤ 8) :
    CallH Tryd.prog n_ref18_number [.slice a n c] H fun v H' => Post (v = u64 (val ns) ∧ H' = H) := by
  have hl : ns.length = n := by have := h.1; rw [u8s_len] at this; omega
  refine c_ref18_number ⟨rfl, ?_⟩
  simp (disch := (first | omega | (simp only [size_new, size_newm, size_wr, size_wrm] <;> omega) | fail)) only [go_sem, Nat.reduceBEq, Nat.reduceAdd, Nat.reduceMul, Nat.reduceLeDiff, ↓reduceIte, rd_new_lt, own_new_lt, mp_new_lt, rd_newm_lt, own_newm_lt, mp_newm_lt, rd_wr_ne, own_wr_ne, mp_wr_ne, rd_wrm_ne, own_wrm_ne, mp_wrm_ne, rd_new_eq, own_new_eq, mp_newm_eq, s_ref18_number]
  refine LoopV.intro (fun m env H' => H' = H ∧ ∃ i : Nat, m = n - i ∧ i ≤ n ∧ env = [(0, .slice a n c), (3, u64 (val (ns.take i))), (4, i64 i)]) n ⟨rfl, 0, by omega, by omega, rfl⟩ ?_
  rintro m env _ ⟨rfl, i, hm, hi, rfl⟩
  simp (disch := (first | omega | (simp only [size_new, size_newm, size_wr, size_wrm] <;> omega) | fail)) only [go_sem, Nat.reduceBEq, Nat.reduceAdd, Nat.reduceMul, Nat.reduceLeDiff, ↓reduceIte, rd_new_lt, own_new_lt, mp_new_lt, rd_newm_lt, own_newm_lt, mp_newm_lt, rd_wr_ne, own_wr_ne, mp_wr_ne, rd_wrm_ne, own_wrm_ne, mp_wrm_ne, rd_new_eq, own_new_eq, mp_newm_eq]
  refine Both.dec (fun h1 => ?_) (fun h1 => ?_) <;> simp (disch := (first | omega | (simp only [size_new, size_newm, size_wr, size_wrm] <;> omega) | fail)) only [go_sem, Nat.reduceBEq, Nat.reduceAdd, Nat.reduceMul, Nat.reduceLeDiff, ↓reduceIte, rd_new_lt, own_new_lt, mp_new_lt, rd_newm_lt, own_newm_lt, mp_newm_lt, rd_wr_ne, own_wr_ne, mp_wr_ne, rd_wrm_ne, own_wrm_ne, mp_wrm_ne, rd_new_eq, own_new_eq, mp_newm_eq]
  · obtain ⟨x, hx⟩ : ∃ x, ns[i]? = some x := ⟨_, List.getElem?_eq_getElem (by omega)⟩
    obtain ⟨_, b, o, lb, rfl, hrd, hlb⟩ := RdS.byte h hx
    refine ⟨⟨by omega, by omega⟩, ?_⟩
    simp (disch := (first | omega | (simp only [size_new, size_newm, size_wr, size_wrm] <;> omega) | fail)) only [go_sem, Nat.reduceBEq, Nat.reduceAdd, Nat.reduceMul, Nat.reduceLeDiff, ↓reduceIte, rd_new_lt, own_new_lt, mp_new_lt, rd_newm_lt, own_newm_lt, mp_newm_lt, rd_wr_ne, own_wr_ne, mp_wr_ne, rd_wrm_ne, own_wrm_ne, mp_wrm_ne, rd_new_eq, own_new_eq, mp_newm_eq, Int.toNat_natCast, Nat.mul_one, hrd, hlb]
    have hxl := hns x (List.mem_of_getElem? hx)
    have hv := val_small hns (i := i) (by omega)
    have w1 : IntKind.u64.wrap ((val (ns.take i) : Int) * 256) = ((val (ns.take i) * 256 : Nat) : Int) := (wrapU64 (by omega) (by omega)).trans (by omega)
    have w2 : IntKind.u64.wrap (x : Int) = x := wrapU64 (by omega) (by omega)
    have w3 : IntKind.u64.wrap (((val (ns.take i) * 256 : Nat) : Int) + (x : Int)) = ((val (ns.take (i + 1)) : Nat) : Int) := by
      rw [val_take hx]
      exact (wrapU64 (by omega) (by omega)).trans (by omega)
    simp (disch := (first | omega | (simp only [size_new, size_newm, size_wr, size_wrm] <;> omega) | fail)) only [go_sem, Nat.reduceBEq, Nat.reduceAdd, Nat.reduceMul, Nat.reduceLeDiff, ↓reduceIte, rd_new_lt, own_new_lt, mp_new_lt, rd_newm_lt, own_newm_lt, mp_newm_lt, rd_wr_ne, own_wr_ne, mp_wr_ne, rd_wrm_ne, own_wrm_ne, mp_wrm_ne, rd_new_eq, own_new_eq, mp_newm_eq, w1, w2, w3]
    rw [wrap64 (n := (i : Int) + 1) (by omega) (by omega)]
    exact ⟨n - (i + 1), by omega, trivial, i + 1, rfl, by omega, rfl⟩
  · have : i = n := by omega
    subst this
    refine ⟨?_, rfl⟩
    rw [List.take_of_length_le (by omega)]
    rfl

theorem ref18_bytes_spec : ∀ (m : Nat) (H : Hp) (x : Nat), m ≤ 8 → x < 18446744073709551616 → CallH Tryd.prog n_ref18_bytes [u64 x, i64 m] H fun v H' => Post (Fresh H H' ∧ ∃ b, H.size ≤ b ∧ Sl H' 1 v m (u8s (be m x)) (some b)) := by
  intro m
  induction m with
  | zero =>
    intro H x _ hx
    refine c_ref18_bytes ⟨rfl, ?_⟩
    simp (disch := (first | omega | (simp only [size_new, size_newm, size_wr, size_wrm] <;> omega) | fail)) only [go_sem, Nat.reduceBEq, Nat.reduceAdd, Nat.reduceMul, Nat.reduceLeDiff, ↓reduceIte, rd_new_lt, own_new_lt, mp_new_lt, rd_newm_lt, own_newm_lt, mp_newm_lt, rd_wr_ne, own_wr_ne, mp_wr_ne, rd_wrm_ne, own_wrm_ne, mp_wrm_ne, rd_new_eq, own_new_eq, mp_newm_eq, s_ref18_bytes]
    refine Both.of_true (by decide) ?_
    simp (disch := (first | omega | (simp only [size_new, size_newm, size_wr, size_wrm] <;> omega) | fail)) only [go_sem, Nat.reduceBEq, Nat.reduceAdd, Nat.reduceMul, Nat.reduceLeDiff, ↓reduceIte, rd_new_lt, own_new_lt, mp_new_lt, rd_newm_lt, own_newm_lt, mp_newm_lt, rd_wr_ne, own_wr_ne, mp_wr_ne, rd_wrm_ne, own_wrm_ne, mp_wrm_ne, rd_new_eq, own_new_eq, mp_newm_eq]
    exact ⟨(Ext.refl _ _).new _ _, H.size, Nat.le_refl _, Sl.lit_at (size := 1) (n := 0) (xs := []) rfl rfl⟩
  | succ m ih =>
    intro H x hm hx
    refine c_ref18_bytes ⟨rfl, ?_⟩
    simp (disch := (first | omega | (simp only [size_new, size_newm, size_wr, size_wrm] <;> omega) | fail)) only [go_sem, Nat.reduceBEq, Nat.reduceAdd, Nat.reduceMul, Nat.reduceLeDiff, ↓reduceIte, rd_new_lt, own_new_lt, mp_new_lt, rd_newm_lt, own_newm_lt, mp_newm_lt, rd_wr_ne, own_wr_ne, mp_wr_ne, rd_wrm_ne, own_wrm_ne, mp_wrm_ne, rd_new_eq, own_new_eq, mp_newm_eq, s_ref18_bytes]
    refine Both.of_false (by simp; omega) ?_
    have h256 : ¬ ((256 : Int) = 0) := by decide
    have hq : IntKind.u64.wrap ((x : Int).tdiv 256) = ((x / 256 : Nat) : Int) := by
      rw [Int.tdiv_eq_ediv_of_nonneg (by omega)]
      exact (wrapU64 (by omega) (by omega)).trans (by omega)
    have hr : (x : Int).tmod 256 = ((x % 256 : Nat) : Int) := by rw [Int.tmod_eq_emod_of_nonneg (by omega)]; omega
    have hm1 : IntKind.i64.wrap (((m + 1 : Nat) : Int) - 1) = (m : Int) := (wrap64 (by omega) (by omega)).trans (by omega)
    simp (disch := (first | omega | (simp only [size_new, size_newm, size_wr, size_wrm] <;> omega) | fail)) only [go_sem, Nat.reduceBEq, Nat.reduceAdd, Nat.reduceMul, Nat.reduceLeDiff, ↓reduceIte, rd_new_lt, own_new_lt, mp_new_lt, rd_newm_lt, own_newm_lt, mp_newm_lt, rd_wr_ne, own_wr_ne, mp_wr_ne, rd_wrm_ne, own_wrm_ne, mp_wrm_ne, rd_new_eq, own_new_eq, mp_newm_eq, if_neg h256, hq, hm1]
    refine (ih H (x / 256) (by omega) (by omega)).mono ?_
    rintro v H1 ⟨f1, b, hb, s1⟩
    simp (disch := (first | omega | (simp only [size_new, size_newm, size_wr, size_wrm] <;> omega) | fail)) only [go_sem, Nat.reduceBEq, Nat.reduceAdd, Nat.reduceMul, Nat.reduceLeDiff, ↓reduceIte, rd_new_lt, own_new_lt, mp_new_lt, rd_newm_lt, own_newm_lt, mp_newm_lt, rd_wr_ne, own_wr_ne, mp_wr_ne, rd_wrm_ne, own_wrm_ne, mp_wrm_ne, rd_new_eq, own_new_eq, mp_newm_eq, if_neg h256, hr, wrapU8_mod, Nat.mod_mod]
    have f2 : Fresh H1 (H1.new 5 [.int .u8 ((x % 256 : Nat) : Int)]) := (Ext.refl _ _).new _ _
    refine Sl.append (s1.ext f2 (fun _ _ h => h)) (Sl.lit_at (size := 1) (n := 1) (xs := u8s [x % 256]) rfl rfl).rd rfl (ones_u8s _) (by omega) ?_
    intro v2 H2 fp2 s2 e2 hfp2
    simp (disch := (first | omega | (simp only [size_new, size_newm, size_wr, size_wrm] <;> omega) | fail)) only [go_sem, Nat.reduceBEq, Nat.reduceAdd, Nat.reduceMul, Nat.reduceLeDiff, ↓reduceIte, rd_new_lt, own_new_lt, mp_new_lt, rd_newm_lt, own_newm_lt, mp_newm_lt, rd_wr_ne, own_wr_ne, mp_wr_ne, rd_wrm_ne, own_wrm_ne, mp_wrm_ne, rd_new_eq, own_new_eq, mp_newm_eq]
    refine ⟨(f1.trans f2).then e2 (fun z (hz : some b = some z) => by injection hz with hz; omega), ?_⟩
    obtain ⟨b', rfl, hb'⟩ : ∃ b', fp2 = some b' ∧ H.size ≤ b' := by
      rcases hfp2 with rfl | ⟨b', rfl, h1, h2⟩
      · exact ⟨b, rfl, hb⟩
      · exact ⟨b', rfl, Nat.le_trans (f1.trans f2).size h1⟩
    exact ⟨b', hb', by rw [be, u8s_app]; exact s2⟩

end Go.Proofs.YtapoboiofpmheaaDoor
