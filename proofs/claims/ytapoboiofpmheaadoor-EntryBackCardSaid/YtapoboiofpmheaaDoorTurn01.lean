/-
  A key turned; an entry that came in.
-/
import Derived.Test.YtapoboiofpmheaaDoorAlive01
import Derived.Test.YtapoboiofpmheaaDoorArgs
set_option linter.unusedVariables false
set_option linter.unusedSimpArgs false
namespace Go.Proofs.YtapoboiofpmheaaDoor
open Go Go.Vc

theorem not64 {n : Int} (h0 : -9223372036854775808 ≤ n) (h1 : n ≤ 9223372036854775807) : IntKind.i64.wrap ((BitVec.ofInt 64 (if IntKind.i64.signed = true then -1 else IntKind.i64.max) ^^^ BitVec.ofInt 64 n).toNat : Int) = -1 - n := by
  rw [if_pos (by rfl), show BitVec.ofInt 64 (-1) = BitVec.allOnes 64 from rfl, BitVec.allOnes_xor, BitVec.toNat_not, BitVec.toNat_ofInt]
  have e : (2 ^ IntKind.i64.bits : Int) = 18446744073709551616 := rfl
  have e' : (2 ^ (IntKind.i64.bits - 1) : Int) = 9223372036854775808 := rfl
  unfold IntKind.wrap
  simp only [e, e', IntKind.signed, Bool.true_and, decide_eq_true_eq]
  have e3 : ((2 ^ 64 : Nat) : Int) = 18446744073709551616 := rfl
  have e4 : (2 ^ 64 : Nat) = 18446744073709551616 := rfl
  rw [e3, e4]
  split <;> omega

theorem entry_Turn_spec {n : Int} (h0 : -9223372036854775808 ≤ n) (h1 : n ≤ 9223372036854775807) (H : Hp) : CallH Tryd.prog n_entry_Turn [i64 n] H fun v H' => Post (v = i64 (-1 - n) ∧ H = H') := by
  refine c_entry_Turn ⟨rfl, ?_⟩
  simp (disch := (first | omega | (simp only [size_new, size_newm, size_wr, size_wrm] <;> omega) | fail)) only [go_sem, Nat.reduceBEq, Nat.reduceAdd, Nat.reduceMul, Nat.reduceLeDiff, ↓reduceIte, rd_new_lt, own_new_lt, mp_new_lt, rd_newm_lt, own_newm_lt, mp_newm_lt, rd_wr_ne, own_wr_ne, mp_wr_ne, rd_wrm_ne, own_wrm_ne, mp_wrm_ne, rd_new_eq, own_new_eq, mp_newm_eq, s_entry_Turn]
  exact ⟨congrArg (fun x => tup [i64 x]) (not64 h0 h1), rfl⟩

theorem fitA_ent {H : Hp} {v : Value} (h : fitA H (true, [.k (.i .i64), .k (.i .u64)]) v) : ∃ (k : Int) (s : Nat), v = ent k s ∧ -9223372036854775808 ≤ k ∧ k ≤ 9223372036854775807 ∧ s < 18446744073709551616 := by
  obtain ⟨cs, rfl, _, _, rfl, ⟨k, rfl, hk⟩, _, _, rfl, ⟨s, rfl, hs⟩, rfl⟩ := h
  have e1 : IntKind.i64.min = -9223372036854775808 := rfl
  have e2 : IntKind.i64.max = 9223372036854775807 := rfl
  have e3 : IntKind.u64.min = 0 := rfl
  have e4 : IntKind.u64.max = 18446744073709551615 := rfl
  simp only [Lit.wf, Bool.and_eq_true, decide_eq_true_eq, e1, e2, e3, e4] at hk hs
  refine ⟨k, s.toNat, ?_, hk.1, hk.2, by omega⟩
  rw [show ((s.toNat : Nat) : Int) = s by omega]

end Go.Proofs.YtapoboiofpmheaaDoor
