/-
  The laws of layer 1: the chapter's examples; the document's order; a key turned; an entry that came in.
-/
import Derived.Test.YtdhogjjdpikheaaDoorRef01
import Derived.Test.YtdhogjjdpikheaaDoorArgs
set_option linter.unusedVariables false
set_option linter.unusedSimpArgs false
namespace Go.Proofs.YtdhogjjdpikheaaDoor
open Go Go.Vc

theorem text_57 : textE (-5) 7 = [45, 53, 35, 55] := by
  unfold textE Lib.itoa
  rw [if_pos (by omega), show (-5 : Int).natAbs = 5 from rfl, decDigits_small (u := 5) (by omega), decDigits_small (u := 7) (by omega)]
  rfl

theorem law01_entryAlive_spec {H : Hp} (ht : TabH H) : CallH Tryd.prog n_law01_entryAlive [] H fun v H' => Post (v = .bool true ∧ Fresh H H') := by
  refine c_law01_entryAlive ⟨rfl, ?_⟩
  have f1 : Fresh H (H.new 24 [i64 0, u64 0]) := (Ext.refl _ _).new _ _
  have f2 : Fresh (H.new 24 [i64 0, u64 0]) ((H.new 24 [i64 0, u64 0]).new 24 [i64 0, u64 0]) := (Ext.refl _ _).new _ _
  have f3 : Fresh ((H.new 24 [i64 0, u64 0]).new 24 [i64 0, u64 0]) (((H.new 24 [i64 0, u64 0]).new 24 [i64 0, u64 0]).new 24 [i64 0, u64 0]) := (Ext.refl _ _).new _ _
  have g1 := (f2.trans f3).own (own_new H 24 [i64 0, u64 0]) (fun h => h)
  have g2 := f3.own (own_new (H.new 24 [i64 0, u64 0]) 24 [i64 0, u64 0]) (fun h => h)
  have g3 := own_new ((H.new 24 [i64 0, u64 0]).new 24 [i64 0, u64 0]) 24 [i64 0, u64 0]
  have z1 : (H.new 24 [i64 0, u64 0]).size = H.size + 1 := by simp only [size_new]
  have z2 : ((H.new 24 [i64 0, u64 0]).new 24 [i64 0, u64 0]).size = H.size + 1 + 1 := by simp only [size_new]
  rw [z1] at g2
  rw [z2] at g3
  have f4 := f1.trans (f2.trans f3)
  simp (disch := (first | omega | (simp only [size_new, size_newm, size_wr, size_wrm] <;> omega) | fail)) only [go_sem, Nat.reduceBEq, Nat.reduceAdd, Nat.reduceMul, Nat.reduceLeDiff, ↓reduceIte, rd_new_lt, own_new_lt, mp_new_lt, rd_newm_lt, own_newm_lt, mp_newm_lt, rd_wr_ne, own_wr_ne, mp_wr_ne, rd_wrm_ne, own_wrm_ne, mp_wrm_ne, rd_new_eq, own_new_eq, mp_newm_eq, s_law01_entryAlive]
  generalize ((H.new 24 [i64 0, u64 0]).new 24 [i64 0, u64 0]).new 24 [i64 0, u64 0] = G at *
  have w1 : Ext (fun z => z = H.size ∨ z = H.size + 1 ∨ z = H.size + 1 + 1) G (((G.wr H.size [i64 (-5), u64 7]).wr (H.size + 1) [i64 (-5), u64 8]).wr (H.size + 1 + 1) [i64 (-4), u64 0]) :=
    (((Ext.refl (fun z => z = H.size ∨ z = H.size + 1 ∨ z = H.size + 1 + 1) G).wr (fun _ => .inl rfl) _).wr (fun _ => .inr (.inl rfl)) _).wr (fun _ => .inr (.inr rfl)) _
  have k1 : (((G.wr H.size [i64 (-5), u64 7]).wr (H.size + 1) [i64 (-5), u64 8]).wr (H.size + 1 + 1) [i64 (-4), u64 0]).own H.size = some [i64 (-5), u64 7] := by
    rw [own_wr_ne (by omega), own_wr_ne (by omega)]; exact own_wr_same g1
  have k2 : (((G.wr H.size [i64 (-5), u64 7]).wr (H.size + 1) [i64 (-5), u64 8]).wr (H.size + 1 + 1) [i64 (-4), u64 0]).own (H.size + 1) = some [i64 (-5), u64 8] := by
    rw [own_wr_ne (by omega)]; exact own_wr_same (by rw [own_wr_ne (by omega)]; exact g2)
  have k3 : (((G.wr H.size [i64 (-5), u64 7]).wr (H.size + 1) [i64 (-5), u64 8]).wr (H.size + 1 + 1) [i64 (-4), u64 0]).own (H.size + 1 + 1) = some [i64 (-4), u64 0] :=
    own_wr_same (by rw [own_wr_ne (by omega), own_wr_ne (by omega)]; exact g3)
  simp (disch := (first | omega | (simp only [size_new, size_newm, size_wr, size_wrm] <;> omega) | fail)) only [go_sem, Nat.reduceBEq, Nat.reduceAdd, Nat.reduceMul, Nat.reduceLeDiff, ↓reduceIte, rd_new_lt, own_new_lt, mp_new_lt, rd_newm_lt, own_newm_lt, mp_newm_lt, rd_wr_ne, own_wr_ne, mp_wr_ne, rd_wrm_ne, own_wrm_ne, mp_wrm_ne, rd_new_eq, own_new_eq, mp_newm_eq, rd_of_own (own_wr_same g1)]
  generalize (((G.wr H.size [i64 (-5), u64 7]).wr (H.size + 1) [i64 (-5), u64 8]).wr (H.size + 1 + 1) [i64 (-4), u64 0]) = G3 at *
  have f5 : Fresh H G3 := f4.then w1 (fun z hz => by omega)
  refine (entry_Text_spec (ht.fresh f5) (by omega) (by omega) (s := 7) (by omega)).mono ?_
  rintro _ H1 ⟨rfl, f6⟩
  rw [text_57]
  have j1 := f6.own k1 (fun h => h)
  have j2 := f6.own k2 (fun h => h)
  have j3 := f6.own k3 (fun h => h)
  simp (disch := (first | omega | (simp only [size_new, size_newm, size_wr, size_wrm] <;> omega) | fail)) only [go_sem, Nat.reduceBEq, Nat.reduceAdd, Nat.reduceMul, Nat.reduceLeDiff, ↓reduceIte, rd_new_lt, own_new_lt, mp_new_lt, rd_newm_lt, own_newm_lt, mp_newm_lt, rd_wr_ne, own_wr_ne, mp_wr_ne, rd_wrm_ne, own_wrm_ne, mp_wrm_ne, rd_new_eq, own_new_eq, mp_newm_eq]
  refine Both.of_true (by simp) ?_
  simp (disch := (first | omega | (simp only [size_new, size_newm, size_wr, size_wrm] <;> omega) | fail)) only [go_sem, Nat.reduceBEq, Nat.reduceAdd, Nat.reduceMul, Nat.reduceLeDiff, ↓reduceIte, rd_new_lt, own_new_lt, mp_new_lt, rd_newm_lt, own_newm_lt, mp_newm_lt, rd_wr_ne, own_wr_ne, mp_wr_ne, rd_wrm_ne, own_wrm_ne, mp_wrm_ne, rd_new_eq, own_new_eq, mp_newm_eq, rd_of_own j1, rd_of_own j2]
  refine (entry_Less_spec (-5) 7 (-5) 8 H1).mono ?_
  rintro _ H2 ⟨rfl, f7⟩
  have i1 := f7.own j1 (fun h => h)
  have i3 := f7.own j3 (fun h => h)
  simp (disch := (first | omega | (simp only [size_new, size_newm, size_wr, size_wrm] <;> omega) | fail)) only [go_sem, Nat.reduceBEq, Nat.reduceAdd, Nat.reduceMul, Nat.reduceLeDiff, ↓reduceIte, rd_new_lt, own_new_lt, mp_new_lt, rd_newm_lt, own_newm_lt, mp_newm_lt, rd_wr_ne, own_wr_ne, mp_wr_ne, rd_wrm_ne, own_wrm_ne, mp_wrm_ne, rd_new_eq, own_new_eq, mp_newm_eq]
  refine Both.of_true (by decide) ?_
  simp (disch := (first | omega | (simp only [size_new, size_newm, size_wr, size_wrm] <;> omega) | fail)) only [go_sem, Nat.reduceBEq, Nat.reduceAdd, Nat.reduceMul, Nat.reduceLeDiff, ↓reduceIte, rd_new_lt, own_new_lt, mp_new_lt, rd_newm_lt, own_newm_lt, mp_newm_lt, rd_wr_ne, own_wr_ne, mp_wr_ne, rd_wrm_ne, own_wrm_ne, mp_wrm_ne, rd_new_eq, own_new_eq, mp_newm_eq, rd_of_own i1, rd_of_own i3]
  refine (entry_Less_spec (-5) 7 (-4) 0 H2).mono ?_
  rintro _ H3 ⟨rfl, f8⟩
  simp (disch := (first | omega | (simp only [size_new, size_newm, size_wr, size_wrm] <;> omega) | fail)) only [go_sem, Nat.reduceBEq, Nat.reduceAdd, Nat.reduceMul, Nat.reduceLeDiff, ↓reduceIte, rd_new_lt, own_new_lt, mp_new_lt, rd_newm_lt, own_newm_lt, mp_newm_lt, rd_wr_ne, own_wr_ne, mp_wr_ne, rd_wrm_ne, own_wrm_ne, mp_wrm_ne, rd_new_eq, own_new_eq, mp_newm_eq]
  exact ⟨rfl, ((f5.trans f6).trans f7).trans f8⟩

theorem ref01_Less_spec (k s k' s' : Int) (H : Hp) : CallH Tryd.prog n_ref01_Less [ent k s, ent k' s'] H fun v H' => Post (v = .bool (decide (lessE k s k' s')) ∧ Fresh H H') := by
  refine c_ref01_Less ⟨rfl, ?_⟩
  simp (disch := (first | omega | (simp only [size_new, size_newm, size_wr, size_wrm] <;> omega) | fail)) only [go_sem, Nat.reduceBEq, Nat.reduceAdd, Nat.reduceMul, Nat.reduceLeDiff, ↓reduceIte, rd_new_lt, own_new_lt, mp_new_lt, rd_newm_lt, own_newm_lt, mp_newm_lt, rd_wr_ne, own_wr_ne, mp_wr_ne, rd_wrm_ne, own_wrm_ne, mp_wrm_ne, rd_new_eq, own_new_eq, mp_newm_eq, s_ref01_Less]
  have f0 : Fresh H ((H.new 24 [i64 k, u64 s]).new 24 [i64 k', u64 s']) := ((Ext.refl _ _).new _ _).new _ _
  refine Both.dec (fun h1 => ?_) (fun h1 => ?_) <;> simp (disch := (first | omega | (simp only [size_new, size_newm, size_wr, size_wrm] <;> omega) | fail)) only [go_sem, Nat.reduceBEq, Nat.reduceAdd, Nat.reduceMul, Nat.reduceLeDiff, ↓reduceIte, rd_new_lt, own_new_lt, mp_new_lt, rd_newm_lt, own_newm_lt, mp_newm_lt, rd_wr_ne, own_wr_ne, mp_wr_ne, rd_wrm_ne, own_wrm_ne, mp_wrm_ne, rd_new_eq, own_new_eq, mp_newm_eq]
  · refine ⟨congrArg Value.bool (decide_eq_decide.2 ?_), f0⟩
    subst h1
    unfold lessE
    omega
  · refine ⟨congrArg Value.bool (decide_eq_decide.2 ?_), f0⟩
    unfold lessE
    omega

/-- The order in words. -/
def cmpR (k s k' s' : Int) : Int := if lessE k s k' s' then -1 else if lessE k' s' k s then 1 else 0

theorem cmpR_eq (k s k' s' : Int) : cmpR k s k' s' = cmpE k s k' s' := by
  unfold cmpR cmpE lessE orI cmpI
  by_cases h1 : k < k'
  · simp [h1]
  · by_cases h2 : k' < k
    · have : ¬ (k = k' ∧ s < s') := by omega
      simp [h1, h2, this]
    · have h5 : k = k' := by omega
      subst h5
      by_cases h3 : s < s'
      · simp [h3]
      · by_cases h4 : s' < s
        · simp [h3, h4]
        · simp [h3, h4]

theorem ref01_Compare_spec (k s k' s' : Int) (H : Hp) : CallH Tryd.prog n_ref01_Compare [ent k s, ent k' s'] H fun v H' => Post (v = i64 (cmpE k s k' s') ∧ Fresh H H') := by
  rw [← cmpR_eq]
  refine c_ref01_Compare ⟨rfl, ?_⟩
  simp (disch := (first | omega | (simp only [size_new, size_newm, size_wr, size_wrm] <;> omega) | fail)) only [go_sem, Nat.reduceBEq, Nat.reduceAdd, Nat.reduceMul, Nat.reduceLeDiff, ↓reduceIte, rd_new_lt, own_new_lt, mp_new_lt, rd_newm_lt, own_newm_lt, mp_newm_lt, rd_wr_ne, own_wr_ne, mp_wr_ne, rd_wrm_ne, own_wrm_ne, mp_wrm_ne, rd_new_eq, own_new_eq, mp_newm_eq, s_ref01_Compare]
  have f0 : Fresh H ((H.new 24 [i64 k, u64 s]).new 24 [i64 k', u64 s']) := ((Ext.refl _ _).new _ _).new _ _
  have b1 : ((H.new 24 [i64 k, u64 s]).new 24 [i64 k', u64 s']).own H.size = some [i64 k, u64 s] := Ext.own (((Ext.refl (fun _ => False) _).new _ _) : Fresh (H.new 24 [i64 k, u64 s]) _) (own_new _ _ _) (fun h => h)
  have b2 : ((H.new 24 [i64 k, u64 s]).new 24 [i64 k', u64 s']).own (H.size + 1) = some [i64 k', u64 s'] := own_new_eq (by simp only [size_new])
  refine (ref01_Less_spec k s k' s' _).mono ?_
  rintro _ H1 ⟨rfl, f1⟩
  have c1 := f1.own b1 (fun h => h)
  have c2 := f1.own b2 (fun h => h)
  simp (disch := (first | omega | (simp only [size_new, size_newm, size_wr, size_wrm] <;> omega) | fail)) only [go_sem, Nat.reduceBEq, Nat.reduceAdd, Nat.reduceMul, Nat.reduceLeDiff, ↓reduceIte, rd_new_lt, own_new_lt, mp_new_lt, rd_newm_lt, own_newm_lt, mp_newm_lt, rd_wr_ne, own_wr_ne, mp_wr_ne, rd_wrm_ne, own_wrm_ne, mp_wrm_ne, rd_new_eq, own_new_eq, mp_newm_eq]
  refine Both.dec (fun h1 => ?_) (fun h1 => ?_) <;> simp (disch := (first | omega | (simp only [size_new, size_newm, size_wr, size_wrm] <;> omega) | fail)) only [go_sem, Nat.reduceBEq, Nat.reduceAdd, Nat.reduceMul, Nat.reduceLeDiff, ↓reduceIte, rd_new_lt, own_new_lt, mp_new_lt, rd_newm_lt, own_newm_lt, mp_newm_lt, rd_wr_ne, own_wr_ne, mp_wr_ne, rd_wrm_ne, own_wrm_ne, mp_wrm_ne, rd_new_eq, own_new_eq, mp_newm_eq]
  · exact ⟨by unfold cmpR; rw [if_pos h1]; rfl, f0.trans f1⟩
  simp (disch := (first | omega | (simp only [size_new, size_newm, size_wr, size_wrm] <;> omega) | fail)) only [go_sem, Nat.reduceBEq, Nat.reduceAdd, Nat.reduceMul, Nat.reduceLeDiff, ↓reduceIte, rd_new_lt, own_new_lt, mp_new_lt, rd_newm_lt, own_newm_lt, mp_newm_lt, rd_wr_ne, own_wr_ne, mp_wr_ne, rd_wrm_ne, own_wrm_ne, mp_wrm_ne, rd_new_eq, own_new_eq, mp_newm_eq, rd_of_own c1, rd_of_own c2]
  refine (ref01_Less_spec k' s' k s _).mono ?_
  rintro _ H2 ⟨rfl, f2⟩
  simp (disch := (first | omega | (simp only [size_new, size_newm, size_wr, size_wrm] <;> omega) | fail)) only [go_sem, Nat.reduceBEq, Nat.reduceAdd, Nat.reduceMul, Nat.reduceLeDiff, ↓reduceIte, rd_new_lt, own_new_lt, mp_new_lt, rd_newm_lt, own_newm_lt, mp_newm_lt, rd_wr_ne, own_wr_ne, mp_wr_ne, rd_wrm_ne, own_wrm_ne, mp_wrm_ne, rd_new_eq, own_new_eq, mp_newm_eq]
  refine Both.dec (fun h2 => ?_) (fun h2 => ?_) <;> simp (disch := (first | omega | (simp only [size_new, size_newm, size_wr, size_wrm] <;> omega) | fail)) only [go_sem, Nat.reduceBEq, Nat.reduceAdd, Nat.reduceMul, Nat.reduceLeDiff, ↓reduceIte, rd_new_lt, own_new_lt, mp_new_lt, rd_newm_lt, own_newm_lt, mp_newm_lt, rd_wr_ne, own_wr_ne, mp_wr_ne, rd_wrm_ne, own_wrm_ne, mp_wrm_ne, rd_new_eq, own_new_eq, mp_newm_eq]
  · exact ⟨by unfold cmpR; rw [if_neg h1, if_pos h2]; rfl, (f0.trans f1).trans f2⟩
  · exact ⟨by unfold cmpR; rw [if_neg h1, if_neg h2]; rfl, (f0.trans f1).trans f2⟩

theorem not64 {n : Int} (h0 : -9223372036854775808 ≤ n) (h1 : n ≤ 9223372036854775807) : IntKind.i64.wrap ((BitVec.ofInt 64 (if IntKind.i64.signed = true then -1 else IntKind.i64.max) ^^^ BitVec.ofInt 64 n).toNat : Int) = -1 - n := by
  rw [if_pos (by rfl), show BitVec.ofInt 64 (-1) = BitVec.allOnes 64 from rfl, BitVec.allOnes_xor, BitVec.toNat_not, BitVec.toNat_ofInt]
  have e : (2 ^ IntKind.i64.bits : Int) = 18446744073709551616 := rfl
  have e' : (2 ^ (IntKind.i64.bits - 1) : Int) = 9223372036854775808 := rfl
  unfold IntKind.wrap
  simp only [e, e', IntKind.signed, Bool.true_and, decide_eq_true_eq]
  have e3 : ((2 ^ 64 : Nat) : Int) = 18446744073709551616 := rfl
  have e4 : (2 ^ 64 : Nat) = 18446744073709551616 := rfl
  rw [e3, e4]
  split <;> omega

theorem entry_Turn_spec {n : Int} (h0 : -9223372036854775808 ≤ n) (h1 : n ≤ 9223372036854775807) (H : Hp) : CallH Tryd.prog n_entry_Turn [i64 n] H fun v H' => Post (v = i64 (-1 - n) ∧ H = H') := by
  refine c_entry_Turn ⟨rfl, ?_⟩
  simp (disch := (first | omega | (simp only [size_new, size_newm, size_wr, size_wrm] <;> omega) | fail)) only [go_sem, Nat.reduceBEq, Nat.reduceAdd, Nat.reduceMul, Nat.reduceLeDiff, ↓reduceIte, rd_new_lt, own_new_lt, mp_new_lt, rd_newm_lt, own_newm_lt, mp_newm_lt, rd_wr_ne, own_wr_ne, mp_wr_ne, rd_wrm_ne, own_wrm_ne, mp_wrm_ne, rd_new_eq, own_new_eq, mp_newm_eq, s_entry_Turn]
  exact ⟨congrArg (fun x => tup [i64 x]) (not64 h0 h1), rfl⟩

theorem fitA_ent {H : Hp} {v : Value} (h : fitA H (true, [.k (.i .i64), .k (.i .u64)]) v) : ∃ (k : Int) (s : Nat), v = ent k s ∧ -9223372036854775808 ≤ k ∧ k ≤ 9223372036854775807 ∧ s < 18446744073709551616 := by
  obtain ⟨cs, rfl, _, _, rfl, ⟨k, rfl, hk⟩, _, _, rfl, ⟨s, rfl, hs⟩, rfl⟩ := h
  have e1 : IntKind.i64.min = -9223372036854775808 := rfl
  have e2 : IntKind.i64.max = 9223372036854775807 := rfl
  have e3 : IntKind.u64.min = 0 := rfl
  have e4 : IntKind.u64.max = 18446744073709551615 := rfl
  simp only [Lit.wf, Bool.and_eq_true, decide_eq_true_eq, e1, e2, e3, e4] at hk hs
  refine ⟨k, s.toNat, ?_, hk.1, hk.2, by omega⟩
  rw [show ((s.toNat : Nat) : Int) = s by omega]

end Go.Proofs.YtdhogjjdpikheaaDoor
