/-
  The package dary: two heaps become one.
-/
import Derived.Test.YteicchpglnamcaaDary5
import Derived.Test.YteicchpglnamcaaClone
set_option linter.unusedVariables false
set_option linter.unusedSimpArgs false
namespace Go.Proofs.Yteicchpglnamcaa
open Go Go.Vc

set_option maxHeartbeats 1000000 in
theorem dary_Meld_spec {H : Hp} {n : Nat} {S : Nat → Prop} {d st : Int} {w : Nw} (h : DaryAt H n S d st w) (a b : Int) : CallH Try.prog n_dary_Nest_Meld [ptr n, i64 a, i64 b] H fun v H' => Post (
    (¬ (w.has a ∧ w.has b ∧ a ≠ b) ∧ v = .bool false ∧ H = H') ∨
    ((w.has a ∧ w.has b ∧ a ≠ b) ∧ v = .bool true ∧ ∃ q : Nat, (q : Int) ≤ min (w.len a) (w.len b) * (upN d (w.len a + w.len b) : Nat) ∧ ∃ S', DaryAt H' n S' d (min (st + q) 4611686018427387904) (w.join a b) ∧ Ext S H H' ∧ ∀ z, S' z → S z ∨ H.size ≤ z)) := by
  obtain ⟨c, C, rv, fp, rs, m, l, hS⟩ := h
  refine c_dary_Nest_Meld ⟨rfl, ?_⟩
  simp (disch := (first | omega | (simp only [size_new, size_newm, size_wr, size_wrm] <;> omega) | fail)) only [go_sem, Nat.reduceBEq, Nat.reduceAdd, Nat.reduceMul, Nat.reduceLeDiff, ↓reduceIte, rd_new_lt, own_new_lt, mp_new_lt, rd_newm_lt, own_newm_lt, mp_newm_lt, rd_wr_ne, own_wr_ne, mp_wr_ne, rd_wrm_ne, own_wrm_ne, mp_wrm_ne, rd_new_eq, own_new_eq, mp_newm_eq, s_dary_Nest_Meld, rd_of_own m.own]
  refine (cellsN_Join_spec m.cells a b).mono ?_
  rintro _ H1 (⟨hno, rfl, rfl⟩ | ⟨⟨ha, hb, hab⟩, rfl, c1, e1⟩)
  · simp (disch := (first | omega | (simp only [size_new, size_newm, size_wr, size_wrm] <;> omega) | fail)) only [go_sem, Nat.reduceBEq, Nat.reduceAdd, Nat.reduceMul, Nat.reduceLeDiff, ↓reduceIte, rd_new_lt, own_new_lt, mp_new_lt, rd_newm_lt, own_newm_lt, mp_newm_lt, rd_wr_ne, own_wr_ne, mp_wr_ne, rd_wrm_ne, own_wrm_ne, mp_wrm_ne, rd_new_eq, own_new_eq, mp_newm_eq]
    exact .inl ⟨hno, rfl, rfl⟩
  obtain ⟨Ra, hRa⟩ := l.hasR ha
  obtain ⟨Rb, hRb⟩ := l.hasR hb
  have ha1 := ha.1
  have hb1 := hb.1
  have hla := (List.getElem?_eq_some_iff.1 hRa).1
  have hlb := (List.getElem?_eq_some_iff.1 hRb).1
  have o1 := e1.own m.own m.nC
  have m1 : DaryM H1 n c C rv fp d st (w.join a b) rs := ⟨o1, c1, m.sl.ext e1 (fun b hb h => (m.fpd b hb).2 h), fun i R hR => (m.row i R hR).ext e1 (fun x hx => (m.rowd i R hR x hx).1), m.nC, m.fpd, m.rowd, m.rowrow⟩
  obtain ⟨f, cc, lb, rfl, rfl, of, ga, la⟩ := m1.at_ hRa
  obtain ⟨f', cc', lb', hv, hf', of', gb, lb2⟩ := m1.at_ hRb
  injection hf' with hf'
  subst hf'
  rw [of] at of'
  injection of' with of'
  subst of'
  simp (disch := (first | omega | (simp only [size_new, size_newm, size_wr, size_wrm] <;> omega) | fail)) only [go_sem, Nat.reduceBEq, Nat.reduceAdd, Nat.reduceMul, Nat.reduceLeDiff, ↓reduceIte, rd_new_lt, own_new_lt, mp_new_lt, rd_newm_lt, own_newm_lt, mp_newm_lt, rd_wr_ne, own_wr_ne, mp_wr_ne, rd_wrm_ne, own_wrm_ne, mp_wrm_ne, rd_new_eq, own_new_eq, mp_newm_eq, rd_of_own o1]
  refine ⟨by omega, ?_⟩
  simp (disch := (first | omega | (simp only [size_new, size_newm, size_wr, size_wrm] <;> omega) | fail)) only [go_sem, Nat.reduceBEq, Nat.reduceAdd, Nat.reduceMul, Nat.reduceLeDiff, ↓reduceIte, rd_new_lt, own_new_lt, mp_new_lt, rd_newm_lt, own_newm_lt, mp_newm_lt, rd_wr_ne, own_wr_ne, mp_wr_ne, rd_wrm_ne, own_wrm_ne, mp_wrm_ne, rd_new_eq, own_new_eq, mp_newm_eq, rd_of_own of, rd_of_own o1, Nat.mul_one, ga, rwV]
  refine ⟨by omega, ?_⟩
  simp (disch := (first | omega | (simp only [size_new, size_newm, size_wr, size_wrm] <;> omega) | fail)) only [go_sem, Nat.reduceBEq, Nat.reduceAdd, Nat.reduceMul, Nat.reduceLeDiff, ↓reduceIte, rd_new_lt, own_new_lt, mp_new_lt, rd_newm_lt, own_newm_lt, mp_newm_lt, rd_wr_ne, own_wr_ne, mp_wr_ne, rd_wrm_ne, own_wrm_ne, mp_wrm_ne, rd_new_eq, own_new_eq, mp_newm_eq, rd_of_own of, Nat.mul_one, gb, rwV]
  refine vc_cut (fun e H' => e.find 0 = some (ptr n) ∧ e.find 1 = some (i64 a) ∧ e.find 2 = some (i64 b) ∧ H' = H1 ∧ ∃ T F : Rw, e.find 7 = some (ptr T.r) ∧ e.find 8 = some (ptr F.r) ∧
    ((T = Ra ∧ F = Rb ∧ Rb.l.length ≤ Ra.l.length) ∨ (T = Rb ∧ F = Ra ∧ Ra.l.length < Rb.l.length))) ?_ ?_
  · simp (disch := (first | omega | (simp only [size_new, size_newm, size_wr, size_wrm] <;> omega) | fail)) only [go_sem, Nat.reduceBEq, Nat.reduceAdd, Nat.reduceMul, Nat.reduceLeDiff, ↓reduceIte, rd_new_lt, own_new_lt, mp_new_lt, rd_newm_lt, own_newm_lt, mp_newm_lt, rd_wr_ne, own_wr_ne, mp_wr_ne, rd_wrm_ne, own_wrm_ne, mp_wrm_ne, rd_new_eq, own_new_eq, mp_newm_eq]
    refine (sift_Len_spec (m1.row _ Ra hRa)).mono ?_
    rintro _ _ ⟨rfl, rfl⟩
    simp (disch := (first | omega | (simp only [size_new, size_newm, size_wr, size_wrm] <;> omega) | fail)) only [go_sem, Nat.reduceBEq, Nat.reduceAdd, Nat.reduceMul, Nat.reduceLeDiff, ↓reduceIte, rd_new_lt, own_new_lt, mp_new_lt, rd_newm_lt, own_newm_lt, mp_newm_lt, rd_wr_ne, own_wr_ne, mp_wr_ne, rd_wrm_ne, own_wrm_ne, mp_wrm_ne, rd_new_eq, own_new_eq, mp_newm_eq]
    refine (sift_Len_spec (m1.row _ Rb hRb)).mono ?_
    rintro _ _ ⟨rfl, rfl⟩
    simp (disch := (first | omega | (simp only [size_new, size_newm, size_wr, size_wrm] <;> omega) | fail)) only [go_sem, Nat.reduceBEq, Nat.reduceAdd, Nat.reduceMul, Nat.reduceLeDiff, ↓reduceIte, rd_new_lt, own_new_lt, mp_new_lt, rd_newm_lt, own_newm_lt, mp_newm_lt, rd_wr_ne, own_wr_ne, mp_wr_ne, rd_wrm_ne, own_wrm_ne, mp_wrm_ne, rd_new_eq, own_new_eq, mp_newm_eq]
    refine Both.dec (fun hlt => ?_) (fun hlt => ?_) <;> simp (disch := (first | omega | (simp only [size_new, size_newm, size_wr, size_wrm] <;> omega) | fail)) only [go_sem, Nat.reduceBEq, Nat.reduceAdd, Nat.reduceMul, Nat.reduceLeDiff, ↓reduceIte, rd_new_lt, own_new_lt, mp_new_lt, rd_newm_lt, own_newm_lt, mp_newm_lt, rd_wr_ne, own_wr_ne, mp_wr_ne, rd_wrm_ne, own_wrm_ne, mp_wrm_ne, rd_new_eq, own_new_eq, mp_newm_eq]
    · exact ⟨trivial, trivial, trivial, trivial, Rb, Ra, rfl, rfl, .inr ⟨rfl, rfl, by omega⟩⟩
    · exact ⟨trivial, trivial, trivial, trivial, Ra, Rb, rfl, rfl, .inl ⟨rfl, rfl, by omega⟩⟩
  rintro e H1' ⟨e0, ea, eb, hH1, T, F, eT, eF, hTF⟩
  obtain rfl := hH1.symm
  have haa : ((a.toNat : Nat) : Int) = a := by omega
  have hbb : ((b.toNat : Nat) : Int) = b := by omega
  have hne : a.toNat ≠ b.toNat := by omega
  have hT : rs[a.toNat]? = some (some T) ∨ rs[b.toNat]? = some (some T) := by
    rcases hTF with ⟨rfl, rfl, _⟩ | ⟨rfl, rfl, _⟩
    · exact .inl hRa
    · exact .inr hRb
  obtain ⟨iT, iF, hT', hF, hiTF, hpos⟩ : ∃ iT iF : Nat, rs[iT]? = some (some T) ∧ rs[iF]? = some (some F) ∧ iT ≠ iF ∧ 0 < iF := by
    rcases hTF with ⟨rfl, rfl, _⟩ | ⟨rfl, rfl, _⟩
    · exact ⟨_, _, hRa, hRb, hne, by omega⟩
    · exact ⟨_, _, hRb, hRa, Ne.symm hne, by omega⟩
  have hmemTF : ∀ z, (z ∈ T.l ∨ z ∈ F.l) ↔ (z ∈ Ra.l ∨ z ∈ Rb.l) := fun z => by
    rcases hTF with ⟨rfl, rfl, _⟩ | ⟨rfl, rfl, _⟩
    · exact Iff.rfl
    · exact Or.comm
  have eLa := l.len _ Ra hRa
  have eLb := l.len _ Rb hRb
  rw [haa] at eLa
  rw [hbb] at eLb
  have hlen : T.l.length + F.l.length = Ra.l.length + Rb.l.length ∧ ((F.l.length : Nat) : Int) = min (w.len a) (w.len b) := by
    rcases hTF with ⟨rfl, rfl, _⟩ | ⟨rfl, rfl, _⟩ <;> omega
  clear hTF
  have hdisj : ∀ z ∈ F.l, z ∉ T.l := fun z hz hz' => by
    obtain ⟨_, e1, h1⟩ := (l.mem iF F hF z).1 hz
    obtain ⟨_, e2, h2⟩ := (l.mem iT T hT' z).1 hz'
    rw [h1] at h2
    injection h2 with h2
    injection h2 with h2 _
    omega
  have hInF : ∀ (i : Nat) Q, rs[i]? = some (some Q) → 0 < i → ∀ z ∈ Q.l, InC (w.join a b).cs z := fun i Q hQ hi z hz => by
    obtain ⟨z0, e, he⟩ := (l.mem i Q hQ z).1 hz
    exact (InC_join w (by omega) (by omega) z).2 ⟨z0, _, he, by simp only; omega⟩
  have hi0 : ∀ (h : Nat) Q, rs[h]? = some (some Q) → 0 < h := fun h Q hQ => by
    rcases Nat.eq_zero_or_pos h with hi | hi
    · subst hi; rw [l.h0] at hQ; cases hQ
    · exact hi
  have hcsl := m.cells.csl
  have hll : Ra.l.length ≤ 65536 ∧ Rb.l.length ≤ 65536 := by have := (w.len_le a).2; have := (w.len_le b).2; omega
  have hstb := m.cells.st
  have h2 := m1.two hne hT hla hlb of
  rw [wr_wr] at h2
  obtain ⟨m2, e2⟩ := h2
  have hFrow : RowAt (H1.wr f ((lb.set a.toNat (ptr T.r)).set b.toNat (.pointer none))) F.r F.S d F.l F.pl := (m1.row iF F hF).ext e2 (fun x hx hz => (m.rowd iF F hF x hx).2.2 (congrArg some hz.symm))
  have of1 : (H1.wr f (lb.set a.toNat (ptr T.r))).own f = some (lb.set a.toNat (ptr T.r)) := own_wr_same of
  have hll2 : lb.length = (lb.set a.toNat (ptr T.r)).length := (List.length_set ..).symm
  have hbl := (List.getElem?_eq_some_iff.1 gb).1
  have hal := (List.getElem?_eq_some_iff.1 ga).1
  simp (disch := (first | omega | (simp only [size_new, size_newm, size_wr, size_wrm] <;> omega) | fail)) only [go_sem, Nat.reduceBEq, Nat.reduceAdd, Nat.reduceMul, Nat.reduceLeDiff, ↓reduceIte, rd_new_lt, own_new_lt, mp_new_lt, rd_newm_lt, own_newm_lt, mp_newm_lt, rd_wr_ne, own_wr_ne, mp_wr_ne, rd_wrm_ne, own_wrm_ne, mp_wrm_ne, rd_new_eq, own_new_eq, mp_newm_eq, e0, ea, eb, eT, eF, rd_of_own o1]
  refine ⟨by omega, ?_⟩
  simp (disch := (first | omega | (simp only [size_new, size_newm, size_wr, size_wrm] <;> omega) | fail)) only [go_sem, Nat.reduceBEq, Nat.reduceAdd, Nat.reduceMul, Nat.reduceLeDiff, ↓reduceIte, rd_new_lt, own_new_lt, mp_new_lt, rd_newm_lt, own_newm_lt, mp_newm_lt, rd_wr_ne, own_wr_ne, mp_wr_ne, rd_wrm_ne, own_wrm_ne, mp_wrm_ne, rd_new_eq, own_new_eq, mp_newm_eq, e0, ea, eb, eT, eF, of, Nat.mul_one]
  refine ⟨by omega, ?_⟩
  simp (disch := (first | omega | (simp only [size_new, size_newm, size_wr, size_wrm] <;> omega) | fail)) only [go_sem, Nat.reduceBEq, Nat.reduceAdd, Nat.reduceMul, Nat.reduceLeDiff, ↓reduceIte, rd_new_lt, own_new_lt, mp_new_lt, rd_newm_lt, own_newm_lt, mp_newm_lt, rd_wr_ne, own_wr_ne, mp_wr_ne, rd_wrm_ne, own_wrm_ne, mp_wrm_ne, rd_new_eq, own_new_eq, mp_newm_eq, Nat.zero_add]
  refine ⟨by omega, ?_⟩
  simp (disch := (first | omega | (simp only [size_new, size_newm, size_wr, size_wrm] <;> omega) | fail)) only [go_sem, Nat.reduceBEq, Nat.reduceAdd, Nat.reduceMul, Nat.reduceLeDiff, ↓reduceIte, rd_new_lt, own_new_lt, mp_new_lt, rd_newm_lt, own_newm_lt, mp_newm_lt, rd_wr_ne, own_wr_ne, mp_wr_ne, rd_wrm_ne, own_wrm_ne, mp_wrm_ne, rd_new_eq, own_new_eq, mp_newm_eq, of1, Nat.mul_one]
  refine ⟨by rw [List.length_set]; omega, ?_⟩
  simp (disch := (first | omega | (simp only [size_new, size_newm, size_wr, size_wrm] <;> omega) | fail)) only [go_sem, Nat.reduceBEq, Nat.reduceAdd, Nat.reduceMul, Nat.reduceLeDiff, ↓reduceIte, rd_new_lt, own_new_lt, mp_new_lt, rd_newm_lt, own_newm_lt, mp_newm_lt, rd_wr_ne, own_wr_ne, mp_wr_ne, rd_wrm_ne, own_wrm_ne, mp_wrm_ne, rd_new_eq, own_new_eq, mp_newm_eq, Nat.zero_add]
  generalize H1.wr f ((lb.set a.toNat (ptr T.r)).set b.toNat (.pointer none)) = H2 at *
  simp (disch := (first | omega | (simp only [size_new, size_newm, size_wr, size_wrm] <;> omega) | fail)) only [go_sem, Nat.reduceBEq, Nat.reduceAdd, Nat.reduceMul, Nat.reduceLeDiff, ↓reduceIte, rd_new_lt, own_new_lt, mp_new_lt, rd_newm_lt, own_newm_lt, mp_newm_lt, rd_wr_ne, own_wr_ne, mp_wr_ne, rd_wrm_ne, own_wrm_ne, mp_wrm_ne, rd_new_eq, own_new_eq, mp_newm_eq, e0, ea, eb, eT, eF]
  refine (sift_All_spec hFrow (by omega)).mono ?_
  rintro v3 H3 ⟨f3, fp3, s3, hfp3⟩
  obtain ⟨a3, c3, rfl⟩ := RdS.val2 s3.rd
  simp (disch := (first | omega | (simp only [size_new, size_newm, size_wr, size_wrm] <;> omega) | fail)) only [go_sem, Nat.reduceBEq, Nat.reduceAdd, Nat.reduceMul, Nat.reduceLeDiff, ↓reduceIte, rd_new_lt, own_new_lt, mp_new_lt, rd_newm_lt, own_newm_lt, mp_newm_lt, rd_wr_ne, own_wr_ne, mp_wr_ne, rd_wrm_ne, own_wrm_ne, mp_wrm_ne, rd_new_eq, own_new_eq, mp_newm_eq, e0, ea, eb, eT, eF]
  have m3 := m2.ext f3 (fun _ _ h => h)
  have hslt := m1.slt
  have z1 := e1.size
  have z2 := e2.size
  have z3 := f3.size
  have hU : ∀ j : Nat, j ≤ F.l.length → upN d ((T.l.length + j : Nat) : Int) ≤ upN d (w.len a + w.len b) := fun j hj => upN_mono l.fine (w.len a + w.len b).toNat _ _ (Nat.le_refl _) (by omega)
  generalize upN d (w.len a + w.len b) = U at *
  refine LoopV.intro (fun k env H' => ∃ (j : Nat) (T' : Rw) (q : Nat), env = [(0, ptr n), (7, ptr T.r), (54, .slice a3 F.l.length c3), (55, i64 F.l.length), (56, i64 j)] ∧ k = F.l.length - j ∧ j ≤ F.l.length ∧ T'.r = T.r ∧
      DaryM H' n c C (.slice (some ⟨f, 0, none⟩) rs.length cc) (some f) d (min (st + q) 4611686018427387904) (w.join a b) ((rs.set a.toNat (some T')).set b.toNat none) ∧ HeapOn (ltW (w.join a b)) d T'.l T'.pl ∧
      (∀ z, z ∈ T'.l ↔ z ∈ T.l ∨ z ∈ F.l.take j) ∧ T'.l.length = T.l.length + j ∧ q ≤ j * U ∧ (∀ z, T'.S z → T.S z ∨ H3.size ≤ z) ∧ Ext (fun z => T.S z ∨ C z ∨ z = n) H3 H' ∧ Sl H' 1 (.slice a3 F.l.length c3) F.l.length (F.l.map i64) fp3 ∧
      (∀ b, fp3 = some b → ¬ T'.S b ∧ ¬ C b ∧ b ≠ n)) F.l.length
    ⟨0, T, 0, rfl, by omega, by omega, rfl, by rw [show min (st + ((0 : Nat) : Int)) 4611686018427387904 = st by omega]; exact m3, HeapOn.congr l.fine (l.ok iT T hT') fun z _ y _ => (ltW_join w a b z y).symm,
      fun z => by simp, rfl, by omega, fun z hz => .inl hz, Ext.refl _ _, s3, fun b hb => ⟨fun h => by have := hfp3 b hb; have := hslt b (.inr (.inr (.inr ⟨iT, T, hT', h⟩))); omega, fun h => by have := hfp3 b hb; have := hslt b (.inl h); omega, fun h => by have := hfp3 b hb; have := own_lt o1; omega⟩⟩ ?_
  rintro k env H4 ⟨j, T', q, rfl, rfl, hj, hr, m4, hok, hmem, hlen4, hq, hTS, e4, s4, hfp4⟩
  simp (disch := (first | omega | (simp only [size_new, size_newm, size_wr, size_wrm] <;> omega) | fail)) only [go_sem, Nat.reduceBEq, Nat.reduceAdd, Nat.reduceMul, Nat.reduceLeDiff, ↓reduceIte, rd_new_lt, own_new_lt, mp_new_lt, rd_newm_lt, own_newm_lt, mp_newm_lt, rd_wr_ne, own_wr_ne, mp_wr_ne, rd_wrm_ne, own_wrm_ne, mp_wrm_ne, rd_new_eq, own_new_eq, mp_newm_eq]
  have hg4 : ((rs.set a.toNat (some T')).set b.toNat none)[a.toNat]? = some (some T') := by
    rw [List.getElem?_set_ne (Ne.symm hne), List.getElem?_set_self hla]
  refine Both.dec (fun hlt => ?_) (fun hlt => ?_) <;> simp (disch := (first | omega | (simp only [size_new, size_newm, size_wr, size_wrm] <;> omega) | fail)) only [go_sem, Nat.reduceBEq, Nat.reduceAdd, Nat.reduceMul, Nat.reduceLeDiff, ↓reduceIte, rd_new_lt, own_new_lt, mp_new_lt, rd_newm_lt, own_newm_lt, mp_newm_lt, rd_wr_ne, own_wr_ne, mp_wr_ne, rd_wrm_ne, own_wrm_ne, mp_wrm_ne, rd_new_eq, own_new_eq, mp_newm_eq]
  · obtain ⟨x, hx⟩ : ∃ x, F.l[j]? = some x := ⟨_, List.getElem?_eq_getElem (by omega)⟩
    have hxF := List.mem_of_getElem? hx
    obtain ⟨bb, bo, bc, bl, q1, q2, q3, q4⟩ := RdS.get s4.rd (i := j) (j := 0) (x := i64 x) (by omega) (by simp [hx])
    injection q1 with q1 _ q1'
    subst q1 q1'
    refine ⟨by omega, ?_⟩
    simp (disch := (first | omega | (simp only [size_new, size_newm, size_wr, size_wrm] <;> omega) | fail)) only [go_sem, Nat.reduceBEq, Nat.reduceAdd, Nat.reduceMul, Nat.reduceLeDiff, ↓reduceIte, rd_new_lt, own_new_lt, mp_new_lt, rd_newm_lt, own_newm_lt, mp_newm_lt, rd_wr_ne, own_wr_ne, mp_wr_ne, rd_wrm_ne, own_wrm_ne, mp_wrm_ne, rd_new_eq, own_new_eq, mp_newm_eq, q2, Int.toNat_natCast, show bl[bo + j * 1]? = some (i64 x) from q4]
    rw [← hr]
    have hxT : x ∉ T'.l := fun hm => by
      rcases (hmem x).1 hm with h | h
      · exact hdisj x hxF h
      · obtain ⟨i, hi⟩ := List.getElem?_of_mem h
        rw [List.getElem?_take] at hi
        split at hi
        · have := (l.ok iF F hF).pl.uniq hi hx
          omega
        · cases hi
    have hxp : T'.pl x = none := by
      cases hp : T'.pl x with
      | none => rfl
      | some i => exact absurd ((HeapOn.mem hok x).2 (by rw [hp]; simp)) hxT
    have hInT : ∀ z ∈ T'.l, InC (w.join a b).cs z := fun z hz => by
      rcases (hmem z).1 hz with h | h
      · exact hInF iT T hT' (hi0 iT T hT') z h
      · exact hInF iF F hF hpos z (List.mem_of_mem_take h)
    refine (sift_Add_spec (dary_ord (c := c) (rv := .slice (some ⟨f, 0, none⟩) rs.length cc) (d := d) (st := min (st + q) 4611686018427387904) (w := w.join a b) m.nC) (m4.row _ T' hg4) (fun z hz ht => ?_) (n := 0)
      ⟨by rw [show min (min (st + (q : Int)) 4611686018427387904 + ((0 : Nat) : Int)) 4611686018427387904 = min (st + q) 4611686018427387904 by omega]; exact m4.cells, m4.own⟩ x (by omega) (hInF iF F hF hpos x hxF) hInT).mono ?_
    · rcases ht with ht | ht
      · exact (m4.rowd _ T' hg4 z hz).1 ht
      · exact (m4.rowd _ T' hg4 z hz).2.1 ht
    rintro _ H5 (⟨hp, _, _⟩ | ⟨_, rfl, S', r5, ⟨c5, o5⟩, e5, hS'⟩)
    · exact absurd hxp hp
    obtain ⟨p1, p2, p3, p4⟩ := HeapOn.add (ltW_strict (w.join a b)) l.fine hok hxp
    generalize hUp : upM (ltW (w.join a b)) d x T'.l.length (T'.l ++ [x]) T'.pl T'.l.length = Up at *
    rw [Nat.zero_add] at c5
    simp (disch := (first | omega | (simp only [size_new, size_newm, size_wr, size_wrm] <;> omega) | fail)) only [go_sem, Nat.reduceBEq, Nat.reduceAdd, Nat.reduceMul, Nat.reduceLeDiff, ↓reduceIte, rd_new_lt, own_new_lt, mp_new_lt, rd_newm_lt, own_newm_lt, mp_newm_lt, rd_wr_ne, own_wr_ne, mp_wr_ne, rd_wrm_ne, own_wrm_ne, mp_wrm_ne, rd_new_eq, own_new_eq, mp_newm_eq]
    have hq5 : Up.asked ≤ U := by
      have := hU j hj
      rw [hlen4] at p4
      omega
    have m5 := m4.setRow hg4 (R' := ⟨T'.r, S', Up.l, Up.pl⟩) rfl r5 hS' e5 (fun z hz => by
      rcases hz with hz | hz | hz
      · exact .inr (.inl hz)
      · exact .inl hz
      · exact .inr (.inr hz)) c5 o5
    rw [List.set_comm _ _ (Ne.symm hne), List.set_set, show min (min (st + (q : Int)) 4611686018427387904 + ((Up.asked : Nat) : Int)) 4611686018427387904 = min (st + ((q + Up.asked : Nat) : Int)) 4611686018427387904 by omega] at m5
    have z4 := e4.size
    have hs4 : ∀ b, fp3 = some b → b < H4.size := fun b hb => Sl.lt (hb ▸ s4)
    rw [wrap64 (n := (j : Int) + 1) (by omega) (by omega), hr]
    refine ⟨F.l.length - (j + 1), by omega, j + 1, ⟨T'.r, S', Up.l, Up.pl⟩, q + Up.asked, rfl, rfl, by omega, hr, m5, p1, fun z => ?_, by show Up.l.length = _; omega, ?_, fun z hz => ?_, e4.trans' e5 (fun z hzl hz => ?_), s4.ext e5 (fun b hb hz => ?_), fun b hb => ⟨fun hz => ?_, (hfp4 b hb).2⟩⟩
    · show z ∈ Up.l ↔ _
      rw [p2 z, hmem z, List.take_add_one, hx]
      simp only [Option.toList_some, List.mem_append, List.mem_singleton]
      constructor
      · rintro (h | h | h)
        · exact .inr (.inr h)
        · exact .inl h
        · exact .inr (.inl h)
      · rintro (h | h | h)
        · exact .inr (.inl h)
        · exact .inr (.inr h)
        · exact .inl h
    · rw [Nat.add_mul, Nat.one_mul]; omega
    · rcases hS' z hz with h | h
      · exact hTS z h
      · exact .inr (by omega)
    · rcases hz with hz | hz | hz
      · rcases hTS z hz with h | h
        · exact .inl h
        · exact absurd hzl (by omega)
      · exact .inr (.inl hz)
      · exact .inr (.inr hz)
    · rcases hz with hz | hz | hz
      · exact (hfp4 b hb).1 hz
      · exact (hfp4 b hb).2.1 hz
      · exact (hfp4 b hb).2.2 hz
    · rcases hS' b hz with h | h
      · exact (hfp4 b hb).1 h
      · have := hs4 b hb; omega
  · have hjL : j = F.l.length := by omega
    subst hjL
    have hmS : ∀ z, (T.S z ∨ C z ∨ z = n) → S z := fun z hz => (hS z).1 (by
      rcases hz with hz | hz | hz
      · exact .inr (.inr (.inr ⟨_, T, hT', hz⟩))
      · exact .inl hz
      · exact .inr (.inl hz))
    refine .inr ⟨⟨ha, hb, hab⟩, rfl, q, ?_, DaryS n C (some f) ((rs.set a.toNat (some T')).set b.toNat none), ⟨c, C, _, some f, _, m4, l.join ha hb hab hRa hRb hok (fun z => ?_) (by omega), fun z => Iff.rfl⟩, ?_, fun z hz => ?_⟩
    · rw [← hlen.2, ← Int.natCast_mul]
      exact Int.ofNat_le.2 hq
    · rw [hmem z, List.take_length, hmemTF z]
    · exact (e1.mono fun z _ hz => hmS z (.inr (.inl hz))).trans ((e2.mono fun z _ hz => (hS z).1 (.inr (.inr (.inl (by rw [hz]))))).trans ((f3.mono fun _ _ h => h.elim).trans (e4.mono fun z _ hz => hmS z hz)))
    · rcases hz with hz | rfl | hz | ⟨i, Q, hQ, hz⟩
      · exact .inl ((hS z).1 (.inl hz))
      · exact .inl ((hS z).1 (.inr (.inl rfl)))
      · exact .inl ((hS z).1 (.inr (.inr (.inl hz))))
      · rcases getTwo hla hlb hne hQ with ⟨rfl, rfl⟩ | ⟨h5, h6, h7⟩
        · rcases hTS z hz with h | h
          · exact .inl (hmS z (.inl h))
          · exact .inr (by omega)
        · exact .inl ((hS z).1 (.inr (.inr (.inr ⟨i, Q, h7, hz⟩))))

end Go.Proofs.Yteicchpglnamcaa
