/-
  The package shed: a pile in memory; the library's container/heap over it.
-/
import Derived.Test.YteicchpglnamcaaSwap
import Derived.Test.YteicchpglnamcaaLtw
import Derived.Test.YteicchpglnamcaaMeth
set_option linter.unusedVariables false
set_option linter.unusedSimpArgs false
namespace Go.Proofs.Yteicchpglnamcaa
open Go Go.Vc

theorem Sl.at_ {H : Hp} {v : Value} {n : Nat} {xs : List Value} {fp : Option Nat} (h : Sl H 1 v n xs fp) {i : Nat} {x : Value} (hx : xs[i]? = some x) : ∃ b cc lb, v = .slice (some ⟨b, 0, none⟩) n cc ∧ fp = some b ∧ H.own b = some lb ∧ lb[i]? = some x ∧ i < n ∧ n ≤ lb.length := by
  have hi := (List.getElem?_eq_some_iff.1 hx).1
  obtain ⟨hl, hm⟩ := id h
  cases fp with
  | none => obtain ⟨e, _⟩ := hm; omega
  | some f =>
    obtain ⟨lb, cc, hv, ho, h1, h2, h3⟩ := hm
    refine ⟨f, cc, lb, hv, rfl, ho, ?_, by omega, by omega⟩
    rw [← h3, List.getElem?_take_of_lt (by omega)] at hx
    exact hx

/-- A pile at block r of the nest at block n. -/
structure PileM (H : Hp) (n c : Nat) (C : Nat → Prop) (rv : Value) (r : Nat) (fp fa : Option Nat) (st : Int) (w : Nw) (l at_ : List Int) : Prop where
  own : ∃ av, H.own n = some [ptr c, rv, av] ∧ Sl H 1 av at_.length (at_.map i64) fa
  cells : CellsN H c C st w
  pile : ∃ sv, H.own r = some [ptr n, sv] ∧ Sl H 1 sv l.length (l.map i64) fp
  nC : ¬ C n
  rC : ¬ C r
  rn : r ≠ n
  fpd : ∀ b, fp = some b → ¬ C b ∧ b ≠ n ∧ b ≠ r ∧ fa ≠ some b
  fad : ∀ b, fa = some b → ¬ C b ∧ b ≠ n ∧ b ≠ r
  ll : l.length ≤ 65536

abbrev pv (r : Nat) : Value := .iface 98 (ptr r)

theorem getD_of {l : List Int} {i : Nat} {x : Int} (h : l[i]? = some x) : l.getD i 0 = x := by rw [List.getD_eq_getElem?_getD, h]; rfl
theorem getD_take {l : List Int} {k m : Nat} (h : k < m) : (l.take m).getD k 0 = l.getD k 0 := by rw [List.getD_eq_getElem?_getD, List.getD_eq_getElem?_getD, List.getElem?_take_of_lt h]

section
variable {H : Hp} {n c : Nat} {C : Nat → Prop} {rv : Value} {r : Nat} {fp fa : Option Nat} {st : Int} {w : Nw} {l at_ : List Int}

theorem pile_Len_spec (m : PileM H n c C rv r fp fa st w l at_) : CallH Try.prog n_shed_pile_Len [ptr r] H fun v H' => Post (v = i64 l.length ∧ H = H') := by
  obtain ⟨sv, ho, hs⟩ := m.pile
  obtain ⟨a, cc, rfl⟩ := RdS.val2 hs.rd
  refine c_shed_pile_Len ⟨rfl, ?_⟩
  simp (disch := (first | omega | (simp only [size_new, size_newm, size_wr, size_wrm] <;> omega) | fail)) only [go_sem, Nat.reduceBEq, Nat.reduceAdd, Nat.reduceMul, Nat.reduceLeDiff, ↓reduceIte, rd_new_lt, own_new_lt, mp_new_lt, rd_newm_lt, own_newm_lt, mp_newm_lt, rd_wr_ne, own_wr_ne, mp_wr_ne, rd_wrm_ne, own_wrm_ne, mp_wrm_ne, rd_new_eq, own_new_eq, mp_newm_eq, s_shed_pile_Len, rd_of_own ho]
  exact ⟨rfl, rfl⟩

theorem pile_Less_spec (m : PileM H n c C rv r fp fa st w l at_) {i j : Nat} (hi : i < l.length) (hj : j < l.length) (hin : ∀ z ∈ l, InC w.cs z) : CallH Try.prog n_shed_pile_Less [ptr r, i64 i, i64 j] H fun v H' => Post (
    v = .bool (ltW w (l.getD i 0) (l.getD j 0)) ∧ PileM H' n c C rv r fp fa (min (st + 1) 4611686018427387904) w l at_ ∧ Ext C H H') := by
  obtain ⟨av, hn, ha⟩ := m.own
  obtain ⟨sv, ho, hs⟩ := m.pile
  obtain ⟨x, hx⟩ : ∃ x, l[i]? = some x := ⟨_, List.getElem?_eq_getElem hi⟩
  obtain ⟨y, hy⟩ : ∃ y, l[j]? = some y := ⟨_, List.getElem?_eq_getElem hj⟩
  obtain ⟨b, cc, lb, rfl, hfp, hb, hbx, _, _⟩ := Sl.at_ hs (i := i) (x := i64 x) (by simp [hx])
  obtain ⟨b', cc', lb', hv, hfp', hb', hby, _, _⟩ := Sl.at_ hs (i := j) (x := i64 y) (by simp [hy])
  rw [hfp] at hfp'
  injection hfp' with hfp'
  subst hfp'
  rw [hb] at hb'
  injection hb' with hb'
  subst hb'
  have hll := m.ll
  refine c_shed_pile_Less ⟨rfl, ?_⟩
  simp (disch := (first | omega | (simp only [size_new, size_newm, size_wr, size_wrm] <;> omega) | fail)) only [go_sem, Nat.reduceBEq, Nat.reduceAdd, Nat.reduceMul, Nat.reduceLeDiff, ↓reduceIte, rd_new_lt, own_new_lt, mp_new_lt, rd_newm_lt, own_newm_lt, mp_newm_lt, rd_wr_ne, own_wr_ne, mp_wr_ne, rd_wrm_ne, own_wrm_ne, mp_wrm_ne, rd_new_eq, own_new_eq, mp_newm_eq, s_shed_pile_Less, rd_of_own ho, rd_of_own hn]
  refine ⟨by omega, ?_⟩
  simp (disch := (first | omega | (simp only [size_new, size_newm, size_wr, size_wrm] <;> omega) | fail)) only [go_sem, Nat.reduceBEq, Nat.reduceAdd, Nat.reduceMul, Nat.reduceLeDiff, ↓reduceIte, rd_new_lt, own_new_lt, mp_new_lt, rd_newm_lt, own_newm_lt, mp_newm_lt, rd_wr_ne, own_wr_ne, mp_wr_ne, rd_wrm_ne, own_wrm_ne, mp_wrm_ne, rd_new_eq, own_new_eq, mp_newm_eq, rd_of_own hb, Nat.mul_one, hbx, rd_of_own ho, Int.toNat_natCast]
  refine ⟨by omega, ?_⟩
  simp (disch := (first | omega | (simp only [size_new, size_newm, size_wr, size_wrm] <;> omega) | fail)) only [go_sem, Nat.reduceBEq, Nat.reduceAdd, Nat.reduceMul, Nat.reduceLeDiff, ↓reduceIte, rd_new_lt, own_new_lt, mp_new_lt, rd_newm_lt, own_newm_lt, mp_newm_lt, rd_wr_ne, own_wr_ne, mp_wr_ne, rd_wrm_ne, own_wrm_ne, mp_wrm_ne, rd_new_eq, own_new_eq, mp_newm_eq, rd_of_own hb, Nat.mul_one, hby, Int.toNat_natCast]
  have h1 := hin x (List.mem_of_getElem? hx)
  have h2 := hin y (List.mem_of_getElem? hy)
  refine (cellsN_Ahead_spec m.cells x y).mono ?_
  rintro _ H1 ⟨rfl, c1, e1⟩
  simp (disch := (first | omega | (simp only [size_new, size_newm, size_wr, size_wrm] <;> omega) | fail)) only [go_sem, Nat.reduceBEq, Nat.reduceAdd, Nat.reduceMul, Nat.reduceLeDiff, ↓reduceIte, rd_new_lt, own_new_lt, mp_new_lt, rd_newm_lt, own_newm_lt, mp_newm_lt, rd_wr_ne, own_wr_ne, mp_wr_ne, rd_wrm_ne, own_wrm_ne, mp_wrm_ne, rd_new_eq, own_new_eq, mp_newm_eq]
  have hst := m.cells.st
  rw [if_pos ⟨h1, h2⟩, show stepsI st 1 = min (st + 1) 4611686018427387904 by unfold stepsI; rw [if_neg (by omega)]; split <;> omega] at c1
  refine ⟨by rw [getD_of hx, getD_of hy, ltW_ahead h1 h2]; rfl, ⟨⟨av, e1.own hn m.nC, ha.ext e1 (fun b hb => (m.fad b hb).1)⟩, c1, ⟨_, e1.own ho m.rC, hs.ext e1 (fun b hb => (m.fpd b hb).1)⟩, m.nC, m.rC, m.rn, m.fpd, m.fad, m.ll⟩, e1⟩

theorem pile_Swap_spec (m : PileM H n c C rv r fp fa st w l at_) (hat : AtOk l at_) {i j : Nat} (hi : i < l.length) (hj : j < l.length) (hij : i ≠ j) : CallH Try.prog n_shed_pile_Swap [ptr r, i64 i, i64 j] H fun v H' => Post (
    v = .tuple [].toArray ∧ PileM H' n c C rv r fp fa st w (swp l i j) (atSwp l at_ i j) ∧ Ext (fun z => fp = some z ∨ fa = some z) H H') := by
  obtain ⟨av, hn, ha⟩ := m.own
  obtain ⟨sv, ho, hs⟩ := m.pile
  obtain ⟨x, hx⟩ : ∃ x, l[i]? = some x := ⟨_, List.getElem?_eq_getElem hi⟩
  obtain ⟨y, hy⟩ : ∃ y, l[j]? = some y := ⟨_, List.getElem?_eq_getElem hj⟩
  obtain ⟨b, cc, lb, rfl, rfl, hb, hbx, _, hlb⟩ := Sl.at_ hs (i := i) (x := i64 x) (by simp [hx])
  obtain ⟨b', cc', lb', hv, hfp', hb', hby, _, _⟩ := Sl.at_ hs (i := j) (x := i64 y) (by simp [hy])
  injection hfp' with hfp'
  subst hfp'
  rw [hb] at hb'
  injection hb' with hb'
  subst hb'
  obtain ⟨hx0, hax⟩ := hat i x hx
  obtain ⟨hy0, hay⟩ := hat j y hy
  have hal := (List.getElem?_eq_some_iff.1 hax).1
  have hyl := (List.getElem?_eq_some_iff.1 hay).1
  obtain ⟨f, fc, la, rfl, rfl, hf, hfx, _, hla⟩ := Sl.at_ ha (i := x.toNat) (x := i64 i) (by simp [hax])
  have hll := m.ll
  obtain ⟨d1, d2, d3, d4⟩ := m.fpd b rfl
  obtain ⟨g1, g2, g3⟩ := m.fad f rfl
  have hbf : b ≠ f := fun e => d4 (by rw [e])
  refine c_shed_pile_Swap ⟨rfl, ?_⟩
  simp (disch := (first | omega | (simp only [size_new, size_newm, size_wr, size_wrm] <;> omega) | fail)) only [go_sem, Nat.reduceBEq, Nat.reduceAdd, Nat.reduceMul, Nat.reduceLeDiff, ↓reduceIte, rd_new_lt, own_new_lt, mp_new_lt, rd_newm_lt, own_newm_lt, mp_newm_lt, rd_wr_ne, own_wr_ne, mp_wr_ne, rd_wrm_ne, own_wrm_ne, mp_wrm_ne, rd_new_eq, own_new_eq, mp_newm_eq, s_shed_pile_Swap, rd_of_own ho]
  refine ⟨by omega, ?_⟩
  simp (disch := (first | omega | (simp only [size_new, size_newm, size_wr, size_wrm] <;> omega) | fail)) only [go_sem, Nat.reduceBEq, Nat.reduceAdd, Nat.reduceMul, Nat.reduceLeDiff, ↓reduceIte, rd_new_lt, own_new_lt, mp_new_lt, rd_newm_lt, own_newm_lt, mp_newm_lt, rd_wr_ne, own_wr_ne, mp_wr_ne, rd_wrm_ne, own_wrm_ne, mp_wrm_ne, rd_new_eq, own_new_eq, mp_newm_eq, rd_of_own hb, Nat.mul_one, hby, rd_of_own ho, Int.toNat_natCast]
  refine ⟨by omega, ?_⟩
  simp (disch := (first | omega | (simp only [size_new, size_newm, size_wr, size_wrm] <;> omega) | fail)) only [go_sem, Nat.reduceBEq, Nat.reduceAdd, Nat.reduceMul, Nat.reduceLeDiff, ↓reduceIte, rd_new_lt, own_new_lt, mp_new_lt, rd_newm_lt, own_newm_lt, mp_newm_lt, rd_wr_ne, own_wr_ne, mp_wr_ne, rd_wrm_ne, own_wrm_ne, mp_wrm_ne, rd_new_eq, own_new_eq, mp_newm_eq, rd_of_own hb, Nat.mul_one, hbx, Int.toNat_natCast]
  refine ⟨by omega, ?_⟩
  simp (disch := (first | omega | (simp only [size_new, size_newm, size_wr, size_wrm] <;> omega) | fail)) only [go_sem, Nat.reduceBEq, Nat.reduceAdd, Nat.reduceMul, Nat.reduceLeDiff, ↓reduceIte, rd_new_lt, own_new_lt, mp_new_lt, rd_newm_lt, own_newm_lt, mp_newm_lt, rd_wr_ne, own_wr_ne, mp_wr_ne, rd_wrm_ne, own_wrm_ne, mp_wrm_ne, rd_new_eq, own_new_eq, mp_newm_eq, hb, Nat.mul_one, Int.toNat_natCast]
  refine ⟨by omega, ?_⟩
  simp (disch := (first | omega | (simp only [size_new, size_newm, size_wr, size_wrm] <;> omega) | fail)) only [go_sem, Nat.reduceBEq, Nat.reduceAdd, Nat.reduceMul, Nat.reduceLeDiff, ↓reduceIte, rd_new_lt, own_new_lt, mp_new_lt, rd_newm_lt, own_newm_lt, mp_newm_lt, rd_wr_ne, own_wr_ne, mp_wr_ne, rd_wrm_ne, own_wrm_ne, mp_wrm_ne, rd_new_eq, own_new_eq, mp_newm_eq, Nat.zero_add]
  refine ⟨by omega, ?_⟩
  simp (disch := (first | omega | (simp only [size_new, size_newm, size_wr, size_wrm] <;> omega) | fail)) only [go_sem, Nat.reduceBEq, Nat.reduceAdd, Nat.reduceMul, Nat.reduceLeDiff, ↓reduceIte, rd_new_lt, own_new_lt, mp_new_lt, rd_newm_lt, own_newm_lt, mp_newm_lt, rd_wr_ne, own_wr_ne, mp_wr_ne, rd_wrm_ne, own_wrm_ne, mp_wrm_ne, rd_new_eq, own_new_eq, mp_newm_eq, own_wr_same hb, Nat.mul_one, Int.toNat_natCast]
  refine ⟨by rw [List.length_set]; omega, ?_⟩
  simp (disch := (first | omega | (simp only [size_new, size_newm, size_wr, size_wrm] <;> omega) | fail)) only [go_sem, Nat.reduceBEq, Nat.reduceAdd, Nat.reduceMul, Nat.reduceLeDiff, ↓reduceIte, rd_new_lt, own_new_lt, mp_new_lt, rd_newm_lt, own_newm_lt, mp_newm_lt, rd_wr_ne, own_wr_ne, mp_wr_ne, rd_wrm_ne, own_wrm_ne, mp_wrm_ne, rd_new_eq, own_new_eq, mp_newm_eq, Nat.zero_add]
  have e1 : Ext (fun z => z = b) H (H.wr b ((lb.set i (i64 y)).set j (i64 x))) := (Ext.refl (fun z => z = b) _).wr (fun _ => rfl) _
  have ob : (H.wr b ((lb.set i (i64 y)).set j (i64 x))).own b = some ((lb.set i (i64 y)).set j (i64 x)) := own_wr_same hb
  have s1 := (hs.set1 hb i (i64 y)).set1 (own_wr_same hb) j (i64 x)
  rw [wr_wr] at s1
  generalize H.wr b ((lb.set i (i64 y)).set j (i64 x)) = H1 at *
  have ho1 := e1.own ho (Ne.symm d3)
  have hn1 := e1.own hn (Ne.symm d2)
  have hf1 := e1.own hf (Ne.symm hbf)
  have ha1 := ha.ext e1 (fun z hz h => by injection hz with hz; exact hbf (h.symm.trans hz.symm))
  have c1 := m.cells.ext e1 (fun z hz h => d1 (h ▸ hz))
  have gi : ((lb.set i (i64 y)).set j (i64 x))[i]? = some (i64 y) := by rw [List.getElem?_set_ne (Ne.symm hij), List.getElem?_set_self (by omega)]
  have gj : ((lb.set i (i64 y)).set j (i64 x))[j]? = some (i64 x) := by rw [List.getElem?_set_self (by rw [List.length_set]; omega)]
  simp (disch := (first | omega | (simp only [size_new, size_newm, size_wr, size_wrm] <;> omega) | fail)) only [go_sem, Nat.reduceBEq, Nat.reduceAdd, Nat.reduceMul, Nat.reduceLeDiff, ↓reduceIte, rd_new_lt, own_new_lt, mp_new_lt, rd_newm_lt, own_newm_lt, mp_newm_lt, rd_wr_ne, own_wr_ne, mp_wr_ne, rd_wrm_ne, own_wrm_ne, mp_wrm_ne, rd_new_eq, own_new_eq, mp_newm_eq, rd_of_own ho, rd_of_own hn, rd_of_own ho1, rd_of_own hn1]
  refine ⟨by omega, ?_⟩
  simp (disch := (first | omega | (simp only [size_new, size_newm, size_wr, size_wrm] <;> omega) | fail)) only [go_sem, Nat.reduceBEq, Nat.reduceAdd, Nat.reduceMul, Nat.reduceLeDiff, ↓reduceIte, rd_new_lt, own_new_lt, mp_new_lt, rd_newm_lt, own_newm_lt, mp_newm_lt, rd_wr_ne, own_wr_ne, mp_wr_ne, rd_wrm_ne, own_wrm_ne, mp_wrm_ne, rd_new_eq, own_new_eq, mp_newm_eq, rd_of_own ob, Nat.mul_one, gi, rd_of_own ho1, rd_of_own hn1, Int.toNat_natCast]
  refine ⟨by omega, ?_⟩
  simp (disch := (first | omega | (simp only [size_new, size_newm, size_wr, size_wrm] <;> omega) | fail)) only [go_sem, Nat.reduceBEq, Nat.reduceAdd, Nat.reduceMul, Nat.reduceLeDiff, ↓reduceIte, rd_new_lt, own_new_lt, mp_new_lt, rd_newm_lt, own_newm_lt, mp_newm_lt, rd_wr_ne, own_wr_ne, mp_wr_ne, rd_wrm_ne, own_wrm_ne, mp_wrm_ne, rd_new_eq, own_new_eq, mp_newm_eq, rd_of_own ob, Nat.mul_one, gj, Int.toNat_natCast]
  refine ⟨by omega, ?_⟩
  simp (disch := (first | omega | (simp only [size_new, size_newm, size_wr, size_wrm] <;> omega) | fail)) only [go_sem, Nat.reduceBEq, Nat.reduceAdd, Nat.reduceMul, Nat.reduceLeDiff, ↓reduceIte, rd_new_lt, own_new_lt, mp_new_lt, rd_newm_lt, own_newm_lt, mp_newm_lt, rd_wr_ne, own_wr_ne, mp_wr_ne, rd_wrm_ne, own_wrm_ne, mp_wrm_ne, rd_new_eq, own_new_eq, mp_newm_eq, hf1, Nat.mul_one, Nat.zero_add]
  refine ⟨by omega, ?_⟩
  simp (disch := (first | omega | (simp only [size_new, size_newm, size_wr, size_wrm] <;> omega) | fail)) only [go_sem, Nat.reduceBEq, Nat.reduceAdd, Nat.reduceMul, Nat.reduceLeDiff, ↓reduceIte, rd_new_lt, own_new_lt, mp_new_lt, rd_newm_lt, own_newm_lt, mp_newm_lt, rd_wr_ne, own_wr_ne, mp_wr_ne, rd_wrm_ne, own_wrm_ne, mp_wrm_ne, rd_new_eq, own_new_eq, mp_newm_eq, Nat.zero_add]
  refine ⟨by omega, ?_⟩
  simp (disch := (first | omega | (simp only [size_new, size_newm, size_wr, size_wrm] <;> omega) | fail)) only [go_sem, Nat.reduceBEq, Nat.reduceAdd, Nat.reduceMul, Nat.reduceLeDiff, ↓reduceIte, rd_new_lt, own_new_lt, mp_new_lt, rd_newm_lt, own_newm_lt, mp_newm_lt, rd_wr_ne, own_wr_ne, mp_wr_ne, rd_wrm_ne, own_wrm_ne, mp_wrm_ne, rd_new_eq, own_new_eq, mp_newm_eq, own_wr_same hf1, Nat.mul_one, Nat.zero_add]
  refine ⟨by rw [List.length_set]; omega, ?_⟩
  simp (disch := (first | omega | (simp only [size_new, size_newm, size_wr, size_wrm] <;> omega) | fail)) only [go_sem, Nat.reduceBEq, Nat.reduceAdd, Nat.reduceMul, Nat.reduceLeDiff, ↓reduceIte, rd_new_lt, own_new_lt, mp_new_lt, rd_newm_lt, own_newm_lt, mp_newm_lt, rd_wr_ne, own_wr_ne, mp_wr_ne, rd_wrm_ne, own_wrm_ne, mp_wrm_ne, rd_new_eq, own_new_eq, mp_newm_eq, Nat.zero_add]
  have e2 : Ext (fun z => z = f) H1 (H1.wr f ((la.set y.toNat (i64 i)).set x.toNat (i64 j))) := (Ext.refl (fun z => z = f) _).wr (fun _ => rfl) _
  have s2 := (ha1.set1 hf1 y.toNat (i64 i)).set1 (own_wr_same hf1) x.toNat (i64 j)
  rw [wr_wr] at s2
  have ex := getD_of hx
  have ey := getD_of hy
  refine ⟨rfl, ⟨⟨_, e2.own hn1 (Ne.symm g2), ?_⟩, c1.ext e2 (fun z hz h => g1 (h ▸ hz)), ⟨_, e2.own ho1 (Ne.symm g3), ?_⟩, m.nC, m.rC, m.rn, m.fpd, m.fad, by rw [swp_length]; exact m.ll⟩, (e1.mono fun z _ hz => .inl (by rw [hz])).trans (e2.mono fun z _ hz => .inr (by rw [hz]))⟩
  · unfold atSwp
    rw [ex, ey, List.length_set, List.length_set, List.map_set, List.map_set]
    exact s2
  · have := s1.ext e2 (fun z hz h => by injection hz with hz; exact hbf (hz.trans h))
    unfold swp
    rw [ex, ey, List.length_set, List.length_set, List.map_set, List.map_set]
    exact this

end

/-- A pile whose things have changed places, behind q questions. -/
structure HpTo (n c : Nat) (C : Nat → Prop) (rv : Value) (r : Nat) (fp fa : Option Nat) (st : Int) (w : Nw) (l at_ : List Int) (mm : Nat) (H H' : Hp) (l' at' : List Int) (q : Nat) : Prop where
  pile : PileM H' n c C rv r fp fa (min (st + q) 4611686018427387904) w l' at'
  ok : AtOk l' at'
  mem : ∀ z, z ∈ l' ↔ z ∈ l
  len : l'.length = l.length
  drop : l'.drop mm = l.drop mm
  atl : at'.length = at_.length
  off : ∀ z : Int, 0 ≤ z → z ∉ l → at'[z.toNat]? = at_[z.toNat]?
  ext : Ext (fun z => C z ∨ fp = some z ∨ fa = some z) H H'

section
variable {H H1 : Hp} {n c : Nat} {C : Nat → Prop} {rv : Value} {r : Nat} {fp fa : Option Nat} {st : Int} {w : Nw} {l at_ l1 at1 : List Int} {mm q : Nat}

theorem HpTo.refl (m : PileM H n c C rv r fp fa st w l at_) (hat : AtOk l at_) (mm : Nat) : HpTo n c C rv r fp fa st w l at_ mm H H l at_ 0 :=
  ⟨by have := m.cells.st; rw [show min (st + ((0 : Nat) : Int)) 4611686018427387904 = st by omega]; exact m, hat, fun _ => Iff.rfl, rfl, rfl, rfl, fun _ _ _ => rfl, Ext.refl _ _⟩

theorem HpTo.less (h : HpTo n c C rv r fp fa st w l at_ mm H H1 l1 at1 q) (hin : ∀ z ∈ l, InC w.cs z) {i j : Nat} (hi : i < l.length) (hj : j < l.length) : InvH Try.prog (pv r) "Less" [i64 i, i64 j] H1 fun v H2 =>
    v = .bool (ltW w (l1.getD i 0) (l1.getD j 0)) ∧ HpTo n c C rv r fp fa st w l at_ mm H H2 l1 at1 (q + 1) := by
  have hl := h.len
  refine ⟨_, _, n_shed_pile_Less, ptr r, rfl, methR0 (by kernel_rfl), (pile_Less_spec h.pile (by omega) (by omega) (fun z hz => hin z ((h.mem z).1 hz))).mono ?_⟩
  rintro v H2 ⟨hv, m2, e2⟩
  refine ⟨hv, ?_, h.ok, h.mem, h.len, h.drop, h.atl, h.off, h.ext.trans (e2.mono fun z _ hz => .inl hz)⟩
  rw [show min (st + ((q + 1 : Nat) : Int)) 4611686018427387904 = min (min (st + (q : Int)) 4611686018427387904 + 1) 4611686018427387904 by omega]
  exact m2

theorem HpTo.swap (h : HpTo n c C rv r fp fa st w l at_ mm H H1 l1 at1 q) (hm : mm ≤ l.length) {i j : Nat} (hi : i < mm) (hj : j < mm) (hij : i ≠ j) : InvH Try.prog (pv r) "Swap" [i64 i, i64 j] H1 fun v H2 =>
    v = .tuple [].toArray ∧ HpTo n c C rv r fp fa st w l at_ mm H H2 (swp l1 i j) (atSwp l1 at1 i j) q := by
  have hl := h.len
  refine ⟨_, _, n_shed_pile_Swap, ptr r, rfl, methR0 (by kernel_rfl), (pile_Swap_spec h.pile h.ok (i := i) (j := j) (by omega) (by omega) hij).mono ?_⟩
  rintro v H2 ⟨hv, m2, e2⟩
  obtain ⟨a1, a2, a3⟩ := h.ok.swp (i := i) (j := j) (by omega) (by omega) hij
  refine ⟨hv, m2, a1, fun z => by rw [mem_swp (by omega) (by omega), h.mem z], by rw [swp_length]; exact h.len, by rw [drop_swp hi hj (by omega)]; exact h.drop, a2.trans h.atl, fun z hz hm => ?_, h.ext.trans (e2.mono fun z _ hz => .inr hz)⟩
  rw [a3 z hz (fun h2 => hm ((h.mem z).1 h2))]
  exact h.off z hz hm

set_option maxHeartbeats 1000000 in
theorem heap_up_spec (m : PileM H n c C rv r fp fa st w l at_) (hat : AtOk l at_) {j mm : Nat} (hj : j < mm) (hm : mm ≤ l.length) (hin : ∀ z ∈ l, InC w.cs z) (hA : HeapBut (ltW w) 2 (l.take mm) j)
    (hB : ∀ k, 1 ≤ k → k < (l.take mm).length → pa 2 k = j → ltW w ((l.take mm).getD k 0) ((l.take mm).getD j 0) = false) :
    CallH Try.prog n_container_heap_up [pv r, i64 j] H fun v H' => Post (v = .tuple [].toArray ∧ ∃ (l' at' : List Int) (q : Nat), HpTo n c C rv r fp fa st w l at_ mm H H' l' at' q ∧ HeapL (ltW w) 2 (l'.take mm) ∧ q ≤ upN 2 j ∧ (1 ≤ j → 0 < q)) := by
  have ho := ltW_strict w
  have hll := m.ll
  refine c_container_heap_up ⟨rfl, ?_⟩
  simp (disch := (first | omega | (simp only [size_new, size_newm, size_wr, size_wrm] <;> omega) | fail)) only [go_sem, Nat.reduceBEq, Nat.reduceAdd, Nat.reduceMul, Nat.reduceLeDiff, ↓reduceIte, rd_new_lt, own_new_lt, mp_new_lt, rd_newm_lt, own_newm_lt, mp_newm_lt, rd_wr_ne, own_wr_ne, mp_wr_ne, rd_wrm_ne, own_wrm_ne, mp_wrm_ne, rd_new_eq, own_new_eq, mp_newm_eq, s_container_heap_up]
  refine LoopV.intro (fun k env H' => ∃ (j' : Nat) (l1 at1 : List Int) (q : Nat), env = [(0, pv r), (1, i64 j')] ∧ k = j' ∧ j' < mm ∧ HpTo n c C rv r fp fa st w l at_ mm H H' l1 at1 q ∧ HeapBut (ltW w) 2 (l1.take mm) j' ∧
      (∀ k, 1 ≤ k → k < (l1.take mm).length → pa 2 k = j' → ltW w ((l1.take mm).getD k 0) ((l1.take mm).getD j' 0) = false) ∧ q + upN 2 j' ≤ upN 2 j ∧ (j' ≠ j → 0 < q)) j
    ⟨j, l, at_, 0, rfl, rfl, hj, HpTo.refl m hat mm, hA, hB, by omega, fun h => absurd rfl h⟩ ?_
  clear hA hB
  rintro j' env H1 ⟨_, l1, at1, q, rfl, rfl, hj', h1, hA, hB, hq, hq0⟩
  have hl1 := h1.len
  have hp2 := pa2 j'
  have hpar : IntKind.i64.wrap ((IntKind.i64.wrap ((j' : Int) - 1)).tdiv 2) = ((pa 2 j' : Nat) : Int) := by
    rw [wrap64 (n := (j' : Int) - 1) (by omega) (by omega), hp2]
    split
    · rename_i h; subst h; rfl
    · rw [Int.tdiv_eq_ediv_of_nonneg (by omega), wrap64 (by omega) (by omega)]
  simp (disch := (first | omega | (simp only [size_new, size_newm, size_wr, size_wrm] <;> omega) | fail)) only [go_sem, Nat.reduceBEq, Nat.reduceAdd, Nat.reduceMul, Nat.reduceLeDiff, ↓reduceIte, rd_new_lt, own_new_lt, mp_new_lt, rd_newm_lt, own_newm_lt, mp_newm_lt, rd_wr_ne, own_wr_ne, mp_wr_ne, rd_wrm_ne, own_wrm_ne, mp_wrm_ne, rd_new_eq, own_new_eq, mp_newm_eq, if_neg (show ¬ ((2 : Int) = 0) by decide)]
  rw [hpar]
  have htl : (l1.take mm).length = mm := by rw [List.length_take]; omega
  by_cases h0 : j' = 0
  · refine Both.of_true (decide_eq_true (by rw [hp2, if_pos h0, h0]; rfl)) ?_
    simp (disch := (first | omega | (simp only [size_new, size_newm, size_wr, size_wrm] <;> omega) | fail)) only [go_sem, Nat.reduceBEq, Nat.reduceAdd, Nat.reduceMul, Nat.reduceLeDiff, ↓reduceIte, rd_new_lt, own_new_lt, mp_new_lt, rd_newm_lt, own_newm_lt, mp_newm_lt, rd_wr_ne, own_wr_ne, mp_wr_ne, rd_wrm_ne, own_wrm_ne, mp_wrm_ne, rd_new_eq, own_new_eq, mp_newm_eq]
    exact ⟨rfl, l1, at1, q, h1, hA.heap hB (fun h => by omega), by omega, fun h => hq0 (by omega)⟩
  · have hpl := pa_lt fine2 (j := j') (by omega)
    refine Both.of_false (decide_eq_false (by omega)) ?_
    simp (disch := (first | omega | (simp only [size_new, size_newm, size_wr, size_wrm] <;> omega) | fail)) only [go_sem, Nat.reduceBEq, Nat.reduceAdd, Nat.reduceMul, Nat.reduceLeDiff, ↓reduceIte, rd_new_lt, own_new_lt, mp_new_lt, rd_newm_lt, own_newm_lt, mp_newm_lt, rd_wr_ne, own_wr_ne, mp_wr_ne, rd_wrm_ne, own_wrm_ne, mp_wrm_ne, rd_new_eq, own_new_eq, mp_newm_eq]
    refine InvH.mono (h1.less hin (i := j') (j := pa 2 j') (by omega) (by omega)) ?_
    rintro _ H2 ⟨rfl, h2⟩
    have hup : upN 2 (j' : Int) = upN 2 ((pa 2 j' : Nat) : Int) + 1 := by
      obtain ⟨p, hp, hpa, p0, p1⟩ := parentF_pa fine2 (i := (j' : Int)) (by omega)
      rw [Int.toNat_natCast] at hpa
      rw [upN_child hp, show p = ((pa 2 j' : Nat) : Int) by omega]
    simp (disch := (first | omega | (simp only [size_new, size_newm, size_wr, size_wrm] <;> omega) | fail)) only [go_sem, Nat.reduceBEq, Nat.reduceAdd, Nat.reduceMul, Nat.reduceLeDiff, ↓reduceIte, rd_new_lt, own_new_lt, mp_new_lt, rd_newm_lt, own_newm_lt, mp_newm_lt, rd_wr_ne, own_wr_ne, mp_wr_ne, rd_wrm_ne, own_wrm_ne, mp_wrm_ne, rd_new_eq, own_new_eq, mp_newm_eq]
    cases hlt : ltW w (l1.getD j' 0) (l1.getD (pa 2 j') 0) with
    | false =>
      simp (disch := (first | omega | (simp only [size_new, size_newm, size_wr, size_wrm] <;> omega) | fail)) only [go_sem, Nat.reduceBEq, Nat.reduceAdd, Nat.reduceMul, Nat.reduceLeDiff, ↓reduceIte, rd_new_lt, own_new_lt, mp_new_lt, rd_newm_lt, own_newm_lt, mp_newm_lt, rd_wr_ne, own_wr_ne, mp_wr_ne, rd_wrm_ne, own_wrm_ne, mp_wrm_ne, rd_new_eq, own_new_eq, mp_newm_eq]
      refine ⟨rfl, l1, at1, q + 1, h2, hA.heap hB (fun _ _ => ?_), by omega, fun _ => by omega⟩
      rw [getD_take hj', getD_take (by omega)]
      exact hlt
    | true =>
      simp (disch := (first | omega | (simp only [size_new, size_newm, size_wr, size_wrm] <;> omega) | fail)) only [go_sem, Nat.reduceBEq, Nat.reduceAdd, Nat.reduceMul, Nat.reduceLeDiff, ↓reduceIte, rd_new_lt, own_new_lt, mp_new_lt, rd_newm_lt, own_newm_lt, mp_newm_lt, rd_wr_ne, own_wr_ne, mp_wr_ne, rd_wrm_ne, own_wrm_ne, mp_wrm_ne, rd_new_eq, own_new_eq, mp_newm_eq]
      refine InvH.mono (h2.swap hm (i := pa 2 j') (j := j') (by omega) hj' (by omega)) ?_
      rintro _ H3 ⟨rfl, h3⟩
      simp (disch := (first | omega | (simp only [size_new, size_newm, size_wr, size_wrm] <;> omega) | fail)) only [go_sem, Nat.reduceBEq, Nat.reduceAdd, Nat.reduceMul, Nat.reduceLeDiff, ↓reduceIte, rd_new_lt, own_new_lt, mp_new_lt, rd_newm_lt, own_newm_lt, mp_newm_lt, rd_wr_ne, own_wr_ne, mp_wr_ne, rd_wrm_ne, own_wrm_ne, mp_wrm_ne, rd_new_eq, own_new_eq, mp_newm_eq]
      obtain ⟨g1, g2⟩ := but_up ho (l := l1.take mm) (i := j') (by omega) (by omega) hA hB (by rw [getD_take hj', getD_take (by omega)]; exact hlt)
      have ht : (swp l1 (pa 2 j') j').take mm = swp (l1.take mm) (pa 2 j') j' := take_swp (by omega) hj' (by omega)
      exact ⟨pa 2 j', by omega, pa 2 j', _, _, q + 1, rfl, rfl, by omega, h3, by rw [ht]; exact g1, by rw [ht]; exact g2, by omega, fun _ => by omega⟩

set_option maxHeartbeats 2000000 in
theorem heap_down_spec (m : PileM H n c C rv r fp fa st w l at_) (hat : AtOk l at_) {i0 mm : Nat} (hi : i0 < mm) (hm : mm ≤ l.length) (hin : ∀ z ∈ l, InC w.cs z) (hA : HeapBut (ltW w) 2 (l.take mm) i0) :
    CallH Try.prog n_container_heap_down [pv r, i64 i0, i64 mm] H fun v H' => Post (∃ (b : Bool) (l' at' : List Int) (q : Nat), v = .bool b ∧ HpTo n c C rv r fp fa st w l at_ mm H H' l' at' q ∧ q + 2 * upN 2 i0 ≤ 2 * upN 2 ((mm : Int) - 1) ∧
      (b = true → HeapL (ltW w) 2 (l'.take mm)) ∧ (b = false → l' = l ∧ at' = at_ ∧ ∀ k, 1 ≤ k → k < (l.take mm).length → pa 2 k = i0 → ltW w ((l.take mm).getD k 0) ((l.take mm).getD i0 0) = false)) := by
  have ho := ltW_strict w
  have hll := m.ll
  refine c_container_heap_down ⟨rfl, ?_⟩
  simp (disch := (first | omega | (simp only [size_new, size_newm, size_wr, size_wrm] <;> omega) | fail)) only [go_sem, Nat.reduceBEq, Nat.reduceAdd, Nat.reduceMul, Nat.reduceLeDiff, ↓reduceIte, rd_new_lt, own_new_lt, mp_new_lt, rd_newm_lt, own_newm_lt, mp_newm_lt, rd_wr_ne, own_wr_ne, mp_wr_ne, rd_wrm_ne, own_wrm_ne, mp_wrm_ne, rd_new_eq, own_new_eq, mp_newm_eq, s_container_heap_down]
  have hmono : ∀ k : Nat, k < mm → upN 2 (k : Int) ≤ upN 2 ((mm : Int) - 1) := fun k hk => upN_mono fine2 ((mm : Int) - 1).toNat _ _ (Nat.le_refl _) (by omega)
  refine LoopV.intro (fun k env H' => ∃ (i : Nat) (l1 at1 : List Int) (q : Nat), env = [(0, pv r), (1, i64 i0), (2, i64 mm), (7, i64 i)] ∧ k = mm - i ∧ i < mm ∧ i0 ≤ i ∧ HpTo n c C rv r fp fa st w l at_ mm H H' l1 at1 q ∧ HeapBut (ltW w) 2 (l1.take mm) i ∧
      q + 2 * upN 2 i0 ≤ 2 * upN 2 i ∧ (i0 < i → ltW w ((l1.take mm).getD i 0) ((l1.take mm).getD (pa 2 i) 0) = false) ∧ (i = i0 → l1 = l ∧ at1 = at_)) (mm - i0)
    ⟨i0, l, at_, 0, rfl, rfl, hi, Nat.le_refl _, HpTo.refl m hat mm, hA, by omega, fun h => by omega, fun _ => ⟨rfl, rfl⟩⟩ ?_
  clear hA
  rintro k env H1 ⟨i, l1, at1, q, rfl, rfl, him, hi0, h1, hA, hq, hD, hsame⟩
  have hl1 := h1.len
  have htl : (l1.take mm).length = mm := by rw [List.length_take]; omega
  -- what is so when no child is ahead
  have stay : ∀ (H2 : Hp) (q' : Nat), HpTo n c C rv r fp fa st w l at_ mm H H2 l1 at1 q' → q' + 2 * upN 2 i0 ≤ 2 * upN 2 ((mm : Int) - 1) → (∀ k, 1 ≤ k → k < (l1.take mm).length → pa 2 k = i → ltW w ((l1.take mm).getD k 0) ((l1.take mm).getD i 0) = false) →
      ∃ (b : Bool) (l' at' : List Int) (q : Nat), Value.bool (decide ((i : Int) > i0)) = .bool b ∧ HpTo n c C rv r fp fa st w l at_ mm H H2 l' at' q ∧ q + 2 * upN 2 i0 ≤ 2 * upN 2 ((mm : Int) - 1) ∧
        (b = true → HeapL (ltW w) 2 (l'.take mm)) ∧ (b = false → l' = l ∧ at' = at_ ∧ ∀ k, 1 ≤ k → k < (l.take mm).length → pa 2 k = i0 → ltW w ((l.take mm).getD k 0) ((l.take mm).getD i0 0) = false) := by
    intro H2 q' h2 hq' hB
    refine ⟨_, l1, at1, q', rfl, h2, hq', fun h => ?_, fun h => ?_⟩
    · have := of_decide_eq_true h
      exact hA.heap hB (fun _ _ => hD (by omega))
    · have := of_decide_eq_false h
      have e : i = i0 := by omega
      obtain ⟨e1, e2⟩ := hsame e
      subst e1 e2 e
      exact ⟨rfl, rfl, hB⟩
  have hch : ∀ k : Nat, 1 ≤ k → (pa 2 k = i ↔ (2 * i + 1 ≤ k ∧ k ≤ 2 * i + 2)) := fun k hk => by
    have := pa_iff fine2 (i := i) hk
    rw [this]
    omega
  simp (disch := (first | omega | (simp only [size_new, size_newm, size_wr, size_wrm] <;> omega) | fail)) only [go_sem, Nat.reduceBEq, Nat.reduceAdd, Nat.reduceMul, Nat.reduceLeDiff, ↓reduceIte, rd_new_lt, own_new_lt, mp_new_lt, rd_newm_lt, own_newm_lt, mp_newm_lt, rd_wr_ne, own_wr_ne, mp_wr_ne, rd_wrm_ne, own_wrm_ne, mp_wrm_ne, rd_new_eq, own_new_eq, mp_newm_eq]
  have hj1 : IntKind.i64.wrap (IntKind.i64.wrap (2 * (i : Int)) + 1) = ((2 * i + 1 : Nat) : Int) := by
    rw [wrap64 (n := 2 * (i : Int)) (by omega) (by omega), wrap64 (by omega) (by omega)]; omega
  rw [hj1]
  refine Both.dec (fun hge => ?_) (fun hge => ?_)
  · simp (disch := (first | omega | (simp only [size_new, size_newm, size_wr, size_wrm] <;> omega) | fail)) only [go_sem, Nat.reduceBEq, Nat.reduceAdd, Nat.reduceMul, Nat.reduceLeDiff, ↓reduceIte, rd_new_lt, own_new_lt, mp_new_lt, rd_newm_lt, own_newm_lt, mp_newm_lt, rd_wr_ne, own_wr_ne, mp_wr_ne, rd_wrm_ne, own_wrm_ne, mp_wrm_ne, rd_new_eq, own_new_eq, mp_newm_eq]
    exact stay H1 q h1 (by have := hmono i him; omega) (fun k h2 h3 h4 => by have := (hch k h2).1 h4; omega)
  simp (disch := (first | omega | (simp only [size_new, size_newm, size_wr, size_wrm] <;> omega) | fail)) only [go_sem, Nat.reduceBEq, Nat.reduceAdd, Nat.reduceMul, Nat.reduceLeDiff, ↓reduceIte, rd_new_lt, own_new_lt, mp_new_lt, rd_newm_lt, own_newm_lt, mp_newm_lt, rd_wr_ne, own_wr_ne, mp_wr_ne, rd_wrm_ne, own_wrm_ne, mp_wrm_ne, rd_new_eq, own_new_eq, mp_newm_eq]
  refine Both.of_false (decide_eq_false (by omega)) ?_
  simp (disch := (first | omega | (simp only [size_new, size_newm, size_wr, size_wrm] <;> omega) | fail)) only [go_sem, Nat.reduceBEq, Nat.reduceAdd, Nat.reduceMul, Nat.reduceLeDiff, ↓reduceIte, rd_new_lt, own_new_lt, mp_new_lt, rd_newm_lt, own_newm_lt, mp_newm_lt, rd_wr_ne, own_wr_ne, mp_wr_ne, rd_wrm_ne, own_wrm_ne, mp_wrm_ne, rd_new_eq, own_new_eq, mp_newm_eq]
  have hc1 : 2 * i + 1 < mm := by omega
  refine vc_cut (fun e H2 => e.find 0 = some (pv r) ∧ e.find 1 = some (i64 i0) ∧ e.find 2 = some (i64 mm) ∧ e.find 7 = some (i64 i) ∧ ∃ (b : Nat) (q' : Nat), e.find 9 = some (i64 b) ∧ HpTo n c C rv r fp fa st w l at_ mm H H2 l1 at1 q' ∧ q' ≤ q + 1 ∧ 1 ≤ b ∧ b < mm ∧ pa 2 b = i ∧
      ∀ k, 1 ≤ k → k < (l1.take mm).length → pa 2 k = i → ltW w ((l1.take mm).getD k 0) ((l1.take mm).getD b 0) = false) ?_ ?_
  · have hp1 : pa 2 (2 * i + 1) = i := (hch _ (by omega)).2 ⟨by omega, by omega⟩
    simp (disch := (first | omega | (simp only [size_new, size_newm, size_wr, size_wrm] <;> omega) | fail)) only [go_sem, Nat.reduceBEq, Nat.reduceAdd, Nat.reduceMul, Nat.reduceLeDiff, ↓reduceIte, rd_new_lt, own_new_lt, mp_new_lt, rd_newm_lt, own_newm_lt, mp_newm_lt, rd_wr_ne, own_wr_ne, mp_wr_ne, rd_wrm_ne, own_wrm_ne, mp_wrm_ne, rd_new_eq, own_new_eq, mp_newm_eq]
    have hj2 : IntKind.i64.wrap (((2 * i + 1 : Nat) : Int) + 1) = ((2 * i + 2 : Nat) : Int) := by rw [wrap64 (by omega) (by omega)]; omega
    rw [hj2]
    refine Both.dec (fun h2 => ?_) (fun h2 => ?_)
    · have hp2 : pa 2 (2 * i + 2) = i := (hch _ (by omega)).2 ⟨by omega, by omega⟩
      simp (disch := (first | omega | (simp only [size_new, size_newm, size_wr, size_wrm] <;> omega) | fail)) only [go_sem, Nat.reduceBEq, Nat.reduceAdd, Nat.reduceMul, Nat.reduceLeDiff, ↓reduceIte, rd_new_lt, own_new_lt, mp_new_lt, rd_newm_lt, own_newm_lt, mp_newm_lt, rd_wr_ne, own_wr_ne, mp_wr_ne, rd_wrm_ne, own_wrm_ne, mp_wrm_ne, rd_new_eq, own_new_eq, mp_newm_eq]
      refine InvH.mono (h1.less hin (i := 2 * i + 2) (j := 2 * i + 1) (by omega) (by omega)) ?_
      rintro _ H2 ⟨rfl, g2⟩
      simp (disch := (first | omega | (simp only [size_new, size_newm, size_wr, size_wrm] <;> omega) | fail)) only [go_sem, Nat.reduceBEq, Nat.reduceAdd, Nat.reduceMul, Nat.reduceLeDiff, ↓reduceIte, rd_new_lt, own_new_lt, mp_new_lt, rd_newm_lt, own_newm_lt, mp_newm_lt, rd_wr_ne, own_wr_ne, mp_wr_ne, rd_wrm_ne, own_wrm_ne, mp_wrm_ne, rd_new_eq, own_new_eq, mp_newm_eq]
      cases hlt : ltW w (l1.getD (2 * i + 2) 0) (l1.getD (2 * i + 1) 0) with
      | false =>
        simp (disch := (first | omega | (simp only [size_new, size_newm, size_wr, size_wrm] <;> omega) | fail)) only [go_sem, Nat.reduceBEq, Nat.reduceAdd, Nat.reduceMul, Nat.reduceLeDiff, ↓reduceIte, rd_new_lt, own_new_lt, mp_new_lt, rd_newm_lt, own_newm_lt, mp_newm_lt, rd_wr_ne, own_wr_ne, mp_wr_ne, rd_wrm_ne, own_wrm_ne, mp_wrm_ne, rd_new_eq, own_new_eq, mp_newm_eq]
        refine ⟨trivial, trivial, trivial, trivial, 2 * i + 1, q + 1, rfl, g2, by omega, by omega, hc1, hp1, fun k h3 h4 h5 => ?_⟩
        have h6 := (hch k h3).1 h5
        rw [getD_take (by omega), getD_take (by omega)]
        by_cases h7 : k = 2 * i + 1
        · rw [h7]; exact ho.irr _
        · rw [show k = 2 * i + 2 by omega]; exact hlt
      | true =>
        simp (disch := (first | omega | (simp only [size_new, size_newm, size_wr, size_wrm] <;> omega) | fail)) only [go_sem, Nat.reduceBEq, Nat.reduceAdd, Nat.reduceMul, Nat.reduceLeDiff, ↓reduceIte, rd_new_lt, own_new_lt, mp_new_lt, rd_newm_lt, own_newm_lt, mp_newm_lt, rd_wr_ne, own_wr_ne, mp_wr_ne, rd_wrm_ne, own_wrm_ne, mp_wrm_ne, rd_new_eq, own_new_eq, mp_newm_eq]
        refine ⟨trivial, trivial, trivial, trivial, 2 * i + 2, q + 1, rfl, g2, by omega, by omega, by omega, hp2, fun k h3 h4 h5 => ?_⟩
        have h6 := (hch k h3).1 h5
        rw [getD_take (by omega), getD_take (by omega)]
        by_cases h7 : k = 2 * i + 2
        · rw [h7]; exact ho.irr _
        · rw [show k = 2 * i + 1 by omega]; exact ho.asym hlt
    · simp (disch := (first | omega | (simp only [size_new, size_newm, size_wr, size_wrm] <;> omega) | fail)) only [go_sem, Nat.reduceBEq, Nat.reduceAdd, Nat.reduceMul, Nat.reduceLeDiff, ↓reduceIte, rd_new_lt, own_new_lt, mp_new_lt, rd_newm_lt, own_newm_lt, mp_newm_lt, rd_wr_ne, own_wr_ne, mp_wr_ne, rd_wrm_ne, own_wrm_ne, mp_wrm_ne, rd_new_eq, own_new_eq, mp_newm_eq]
      refine ⟨trivial, trivial, trivial, trivial, 2 * i + 1, q, rfl, h1, by omega, by omega, hc1, hp1, fun k h3 h4 h5 => ?_⟩
      have h6 := (hch k h3).1 h5
      rw [show k = 2 * i + 1 by omega]
      exact ho.irr _
  rintro e H2 ⟨e0, e1, e2, e7, b, q', e9, h2, hq', hb1, hbm, hpb, hleast⟩
  simp (disch := (first | omega | (simp only [size_new, size_newm, size_wr, size_wrm] <;> omega) | fail)) only [go_sem, Nat.reduceBEq, Nat.reduceAdd, Nat.reduceMul, Nat.reduceLeDiff, ↓reduceIte, rd_new_lt, own_new_lt, mp_new_lt, rd_newm_lt, own_newm_lt, mp_newm_lt, rd_wr_ne, own_wr_ne, mp_wr_ne, rd_wrm_ne, own_wrm_ne, mp_wrm_ne, rd_new_eq, own_new_eq, mp_newm_eq, e0, e1, e2, e7, e9]
  refine InvH.mono (h2.less hin (i := b) (j := i) (by omega) (by omega)) ?_
  rintro _ H3 ⟨rfl, h3⟩
  have hup : upN 2 (b : Int) = upN 2 (i : Int) + 1 := by
    obtain ⟨p, hp, hpa, p0, p1⟩ := parentF_pa fine2 (i := (b : Int)) (by omega)
    rw [Int.toNat_natCast, hpb] at hpa
    rw [upN_child hp, show p = (i : Int) by omega]
  have hib := pa_lt fine2 hb1
  simp (disch := (first | omega | (simp only [size_new, size_newm, size_wr, size_wrm] <;> omega) | fail)) only [go_sem, Nat.reduceBEq, Nat.reduceAdd, Nat.reduceMul, Nat.reduceLeDiff, ↓reduceIte, rd_new_lt, own_new_lt, mp_new_lt, rd_newm_lt, own_newm_lt, mp_newm_lt, rd_wr_ne, own_wr_ne, mp_wr_ne, rd_wrm_ne, own_wrm_ne, mp_wrm_ne, rd_new_eq, own_new_eq, mp_newm_eq, e0, e1, e2, e7, e9]
  cases hlt : ltW w (l1.getD b 0) (l1.getD i 0) with
  | false =>
    simp (disch := (first | omega | (simp only [size_new, size_newm, size_wr, size_wrm] <;> omega) | fail)) only [go_sem, Nat.reduceBEq, Nat.reduceAdd, Nat.reduceMul, Nat.reduceLeDiff, ↓reduceIte, rd_new_lt, own_new_lt, mp_new_lt, rd_newm_lt, own_newm_lt, mp_newm_lt, rd_wr_ne, own_wr_ne, mp_wr_ne, rd_wrm_ne, own_wrm_ne, mp_wrm_ne, rd_new_eq, own_new_eq, mp_newm_eq, e0, e1, e2, e7, e9]
    refine stay H3 (q' + 1) h3 (by have := hmono b hbm; omega) (fun k h4 h5 h6 => ?_)
    have h7 := hleast k h4 h5 h6
    have h8 : ltW w ((l1.take mm).getD b 0) ((l1.take mm).getD i 0) = false := by rw [getD_take hbm, getD_take him]; exact hlt
    exact ho.nt _ _ _ h7 h8
  | true =>
    simp (disch := (first | omega | (simp only [size_new, size_newm, size_wr, size_wrm] <;> omega) | fail)) only [go_sem, Nat.reduceBEq, Nat.reduceAdd, Nat.reduceMul, Nat.reduceLeDiff, ↓reduceIte, rd_new_lt, own_new_lt, mp_new_lt, rd_newm_lt, own_newm_lt, mp_newm_lt, rd_wr_ne, own_wr_ne, mp_wr_ne, rd_wrm_ne, own_wrm_ne, mp_wrm_ne, rd_new_eq, own_new_eq, mp_newm_eq, e0, e1, e2, e7, e9]
    refine InvH.mono (h3.swap hm (i := i) (j := b) him hbm (by omega)) ?_
    rintro _ H4 ⟨rfl, h4⟩
    simp (disch := (first | omega | (simp only [size_new, size_newm, size_wr, size_wrm] <;> omega) | fail)) only [go_sem, Nat.reduceBEq, Nat.reduceAdd, Nat.reduceMul, Nat.reduceLeDiff, ↓reduceIte, rd_new_lt, own_new_lt, mp_new_lt, rd_newm_lt, own_newm_lt, mp_newm_lt, rd_wr_ne, own_wr_ne, mp_wr_ne, rd_wrm_ne, own_wrm_ne, mp_wrm_ne, rd_new_eq, own_new_eq, mp_newm_eq, e0, e1, e2, e7, e9]
    obtain ⟨g1, g2⟩ := but_down ho (l := l1.take mm) (i := i) (b := b) hb1 (by omega) hpb hA hleast (by rw [getD_take hbm, getD_take him]; exact hlt)
    have ht : (swp l1 i b).take mm = swp (l1.take mm) i b := take_swp him hbm (by omega)
    exact ⟨mm - b, by omega, b, _, _, q' + 1, rfl, rfl, hbm, by omega, h4, by rw [ht]; exact g1, by omega, fun _ => by rw [ht]; exact g2, fun h => by omega⟩

end

end Go.Proofs.Yteicchpglnamcaa
