/-
  The package dary: a slot's entry is another one.
-/
import Derived.Test.YteicchpglnamcaaDary2
set_option linter.unusedVariables false
set_option linter.unusedSimpArgs false
namespace Go.Proofs.Yteicchpglnamcaa
open Go Go.Vc

theorem ltW_lower (w : Nw) {x : Int} {y : Ce} {k s : Int} (hy : w.cs[x.toNat]? = some y) (hl : ¬ lessE y.2.1 y.2.2 k s) {z : Int} (hz : z.toNat ≠ x.toNat) (h : ltW w z x = false) : ltW (w.put x (y.1, k, s)) z x = false := by
  have k1 : w.key x = y.2.1 := by unfold Nw.key; rw [List.getD_eq_getElem?_getD, hy]; rfl
  have k2 : w.seq x = y.2.2 := by unfold Nw.seq; rw [List.getD_eq_getElem?_getD, hy]; rfl
  have hs := List.getElem?_set_self (l := w.cs) (a := (y.1, k, s)) (List.getElem?_eq_some_iff.1 hy).1
  have k3 : (w.put x (y.1, k, s)).key x = k := by unfold Nw.key Nw.put; simp only [List.getD_eq_getElem?_getD]; rw [hs]; rfl
  have k4 : (w.put x (y.1, k, s)).seq x = s := by unfold Nw.seq Nw.put; simp only [List.getD_eq_getElem?_getD]; rw [hs]; rfl
  have k5 : (w.put x (y.1, k, s)).key z = w.key z := by unfold Nw.key Nw.put; simp only [List.getD_eq_getElem?_getD]; rw [List.getElem?_set_ne (Ne.symm hz)]
  have k6 : (w.put x (y.1, k, s)).seq z = w.seq z := by unfold Nw.seq Nw.put; simp only [List.getD_eq_getElem?_getD]; rw [List.getElem?_set_ne (Ne.symm hz)]
  unfold ltW at h ⊢
  rw [k3, k4, k5, k6]
  rw [k1, k2] at h
  simp only [decide_eq_false_iff_not, lessE] at *
  omega

theorem dary_Decrease_spec {H : Hp} {n : Nat} {S : Nat → Prop} {d st : Int} {w : Nw} (h : DaryAt H n S d st w) (x k s : Int) : CallH Try.prog n_dary_Nest_Decrease [ptr n, i64 x, ent k s] H fun v H' => Post (
    (¬ (InC w.cs x ∧ ∀ y, w.cs[x.toNat]? = some y → ¬ lessE y.2.1 y.2.2 k s) ∧ v = .bool false ∧ DaryAt H' n S d st w ∧ Fresh H H') ∨
    (InC w.cs x ∧ ∃ y, w.cs[x.toNat]? = some y ∧ ¬ lessE y.2.1 y.2.2 k s ∧ v = .bool true ∧ ∃ q : Nat, (q : Int) ≤ upN d (w.len y.1 - 1) ∧ ∃ S', DaryAt H' n S' d (min (st + q) 4611686018427387904) (w.put x (y.1, k, s)) ∧ Ext S H H' ∧ ∀ z, S' z → S z ∨ H.size ≤ z)) := by
  obtain ⟨c, C, rv, fp, rs, m, l, hS⟩ := h
  refine c_dary_Nest_Decrease ⟨rfl, ?_⟩
  simp (disch := (first | omega | (simp only [size_new, size_newm, size_wr, size_wrm] <;> omega) | fail)) only [go_sem, Nat.reduceBEq, Nat.reduceAdd, Nat.reduceMul, Nat.reduceLeDiff, ↓reduceIte, rd_new_lt, own_new_lt, mp_new_lt, rd_newm_lt, own_newm_lt, mp_newm_lt, rd_wr_ne, own_wr_ne, mp_wr_ne, rd_wrm_ne, own_wrm_ne, mp_wrm_ne, rd_new_eq, own_new_eq, mp_newm_eq, s_dary_Nest_Decrease]
  have f0 : Fresh H (H.new 70 [i64 k, u64 s]) := (Ext.refl _ _).new _ _
  have b0 : (H.new 70 [i64 k, u64 s]).own H.size = some [i64 k, u64 s] := own_new _ _ _
  have m0 := m.ext f0 (fun _ _ h => h)
  generalize H.new 70 [i64 k, u64 s] = H0 at *
  simp (disch := (first | omega | (simp only [size_new, size_newm, size_wr, size_wrm] <;> omega) | fail)) only [go_sem, Nat.reduceBEq, Nat.reduceAdd, Nat.reduceMul, Nat.reduceLeDiff, ↓reduceIte, rd_new_lt, own_new_lt, mp_new_lt, rd_newm_lt, own_newm_lt, mp_newm_lt, rd_wr_ne, own_wr_ne, mp_wr_ne, rd_wrm_ne, own_wrm_ne, mp_wrm_ne, rd_new_eq, own_new_eq, mp_newm_eq, rd_of_own m0.own, rd_of_own b0]
  refine (cellsN_Lower_spec m0.cells x k s).mono ?_
  rintro _ H1 (⟨hno, rfl, c1, e1⟩ | ⟨hin, rfl, y, hy, hless, c1, e1⟩)
  · simp (disch := (first | omega | (simp only [size_new, size_newm, size_wr, size_wrm] <;> omega) | fail)) only [go_sem, Nat.reduceBEq, Nat.reduceAdd, Nat.reduceMul, Nat.reduceLeDiff, ↓reduceIte, rd_new_lt, own_new_lt, mp_new_lt, rd_newm_lt, own_newm_lt, mp_newm_lt, rd_wr_ne, own_wr_ne, mp_wr_ne, rd_wrm_ne, own_wrm_ne, mp_wrm_ne, rd_new_eq, own_new_eq, mp_newm_eq]
    exact .inl ⟨hno, rfl, ⟨c, C, rv, fp, rs, m0.ext e1 (fun _ _ h => h), l, hS⟩, f0.trans e1⟩
  have o1 := e1.own m0.own m.nC
  simp (disch := (first | omega | (simp only [size_new, size_newm, size_wr, size_wrm] <;> omega) | fail)) only [go_sem, Nat.reduceBEq, Nat.reduceAdd, Nat.reduceMul, Nat.reduceLeDiff, ↓reduceIte, rd_new_lt, own_new_lt, mp_new_lt, rd_newm_lt, own_newm_lt, mp_newm_lt, rd_wr_ne, own_wr_ne, mp_wr_ne, rd_wrm_ne, own_wrm_ne, mp_wrm_ne, rd_new_eq, own_new_eq, mp_newm_eq, rd_of_own o1]
  obtain ⟨hx0, y', hy', hpos⟩ := id hin
  rw [hy] at hy'
  injection hy' with hy'
  subst hy'
  have hput : (w.put x (y.1, k, s)).cs[x.toNat]? = some (y.1, k, s) := List.getElem?_set_self (List.getElem?_eq_some_iff.1 hy).1
  have hput2 : ∀ z : Nat, z ≠ x.toNat → (w.put x (y.1, k, s)).cs[z]? = w.cs[z]? := fun z hz => List.getElem?_set_ne (Ne.symm hz)
  have hin' : InC (w.put x (y.1, k, s)).cs x := ⟨hx0, _, hput, hpos⟩
  refine (cellsN_Home_spec c1 x).mono ?_
  rintro _ H2 (⟨hno, _, _⟩ | ⟨_, y2, hy2, rfl, c2, e2⟩)
  · exact absurd hin' hno
  rw [hput] at hy2
  injection hy2 with hy2
  subst hy2
  have e12 := e1.trans e2
  obtain ⟨R, hR⟩ := (l.hs y.1.toNat).1 (m.cells.live _ (List.mem_of_getElem? hy) hpos)
  have hgg : ((y.1.toNat : Nat) : Int) = y.1 := by omega
  have hmemW : ∀ (h : Nat) Q, rs[h]? = some (some Q) → ∀ z : Int, z ∈ Q.l ↔ 0 ≤ z ∧ ∃ e, (w.put x (y.1, k, s)).cs[z.toNat]? = some (((h : Nat) : Int), e) := fun h Q hQ z => by
    rw [l.mem h Q hQ z]
    by_cases hzx : z.toNat = x.toNat
    · rw [hzx, hput, hy]
      constructor
      · rintro ⟨z0, e, he⟩
        injection he with he
        exact ⟨z0, (k, s), by rw [he]⟩
      · rintro ⟨z0, e, he⟩
        injection he with he
        injection he with he1 _
        exact ⟨z0, y.2, by rw [← he1]⟩
    · rw [hput2 _ hzx]
  have hmem := hmemW _ R hR
  have hlen := l.len _ R hR
  rw [hgg] at hmem hlen
  have hxR : x ∈ R.l := (hmem x).2 ⟨hx0, _, hput⟩
  have hInD : ∀ z ∈ R.l, InC (w.put x (y.1, k, s)).cs z := fun z hz => by
    obtain ⟨z0, e, he⟩ := (hmem z).1 hz
    exact ⟨z0, _, he, hpos⟩
  have o2 := e2.own o1 m.nC
  have m2 : DaryM H2 n c C rv fp d st (w.put x (y.1, k, s)) rs := ⟨o2, c2, m0.sl.ext e12 (fun b hb h => (m.fpd b hb).2 h), fun i R hR => (m0.row i R hR).ext e12 (fun x hx => (m.rowd i R hR x hx).1), m.nC, m.fpd, m.rowd, m.rowrow⟩
  have hlt := (List.getElem?_eq_some_iff.1 hR).1
  obtain ⟨b, o, c', lb, q1, q2, q3, q4⟩ := RdS.get m2.sl.rd (i := y.1.toNat) (j := 0) (x := ptr R.r) (by omega) (by simp [hR, rwV])
  subst q1
  have hstb := m.cells.st
  have hcsl := m.cells.csl
  have hll : R.l.length ≤ 65536 := by have := (w.len_le y.1).2; omega
  simp (disch := (first | omega | (simp only [size_new, size_newm, size_wr, size_wrm] <;> omega) | fail)) only [go_sem, Nat.reduceBEq, Nat.reduceAdd, Nat.reduceMul, Nat.reduceLeDiff, ↓reduceIte, rd_new_lt, own_new_lt, mp_new_lt, rd_newm_lt, own_newm_lt, mp_newm_lt, rd_wr_ne, own_wr_ne, mp_wr_ne, rd_wrm_ne, own_wrm_ne, mp_wrm_ne, rd_new_eq, own_new_eq, mp_newm_eq, rd_of_own o2]
  refine ⟨by omega, ?_⟩
  simp (disch := (first | omega | (simp only [size_new, size_newm, size_wr, size_wrm] <;> omega) | fail)) only [go_sem, Nat.reduceBEq, Nat.reduceAdd, Nat.reduceMul, Nat.reduceLeDiff, ↓reduceIte, rd_new_lt, own_new_lt, mp_new_lt, rd_newm_lt, own_newm_lt, mp_newm_lt, rd_wr_ne, own_wr_ne, mp_wr_ne, rd_wrm_ne, own_wrm_ne, mp_wrm_ne, rd_new_eq, own_new_eq, mp_newm_eq, q2, show lb[o + y.1.toNat * 1]? = some (ptr R.r) from q4]
  refine (sift_Raise_spec (dary_ord (c := c) (rv := .slice (some ⟨b, o, none⟩) rs.length c') (d := d) (st := st) (w := w.put x (y.1, k, s)) m.nC) (m2.row _ R hR) (fun z hz ht => ?_) (n := 0) ⟨by rw [show min (st + ((0 : Nat) : Int)) 4611686018427387904 = st by omega]; exact c2, o2⟩ x (by omega) (fun i hi => by
    obtain ⟨h1, h2⟩ := ((l.ok _ R hR).pl x i).1 hi
    have := (List.getElem?_eq_some_iff.1 h2).1
    exact ⟨h1, by omega⟩) hin' hInD).mono ?_
  · rcases ht with ht | ht
    · exact (m.rowd _ R hR z hz).1 ht
    · exact (m.rowd _ R hR z hz).2.1 ht
  rintro _ H3 (⟨hp, _, _⟩ | ⟨i, hp, rfl, r3, ⟨c3, o3⟩, e3⟩)
  · exact absurd hp ((HeapOn.mem (l.ok _ R hR) x).1 hxR)
  have hz0 : ∀ z ∈ R.l, z ≠ x → z.toNat ≠ x.toNat := fun z hz hne e => by have := ((hmem z).1 hz).1; omega
  obtain ⟨p1, p2, p3, p4⟩ := HeapOn.raise (ltW_strict w) (ltW_strict (w.put x (y.1, k, s))) l.fine (l.ok _ R hR) hp (fun a ha b hb hax hbx => ltW_put w x _ (hz0 a ha hax) (hz0 b hb hbx)) (fun z hz hzx hl => ltW_lower w hy hless (hz0 z hz hzx) hl)
  generalize hU : upM (ltW (w.put x (y.1, k, s))) d x i.toNat R.l R.pl i = U at *
  rw [Nat.zero_add] at c3
  simp (disch := (first | omega | (simp only [size_new, size_newm, size_wr, size_wrm] <;> omega) | fail)) only [go_sem, Nat.reduceBEq, Nat.reduceAdd, Nat.reduceMul, Nat.reduceLeDiff, ↓reduceIte, rd_new_lt, own_new_lt, mp_new_lt, rd_newm_lt, own_newm_lt, mp_newm_lt, rd_wr_ne, own_wr_ne, mp_wr_ne, rd_wrm_ne, own_wrm_ne, mp_wrm_ne, rd_new_eq, own_new_eq, mp_newm_eq]
  have hmS : ∀ z, (R.S z ∨ C z ∨ z = n) → S z := fun z hz => (hS z).1 (by
    rcases hz with hz | hz | hz
    · exact .inr (.inr (.inr ⟨_, R, hR, hz⟩))
    · exact .inl hz
    · exact .inr (.inl hz))
  have hget : ∀ (h : Nat) Q, (rs.set y.1.toNat (some (⟨R.r, R.S, U.l, U.pl⟩ : Rw)))[h]? = some (some Q) → (h = y.1.toNat ∧ Q = ⟨R.r, R.S, U.l, U.pl⟩) ∨ (h ≠ y.1.toNat ∧ rs[h]? = some (some Q)) := fun h Q hQ => by
    by_cases hh : h = y.1.toNat
    · subst hh
      rw [List.getElem?_set_self hlt] at hQ
      simp only [Option.some.injEq] at hQ
      exact .inl ⟨rfl, hQ.symm⟩
    · rw [List.getElem?_set_ne (Ne.symm hh)] at hQ
      exact .inr ⟨hh, hQ⟩
  have hne : ∀ (h : Nat) Q, h ≠ y.1.toNat → rs[h]? = some (some Q) → ∀ z ∈ Q.l, z.toNat ≠ x.toNat := fun h Q hh hQ z hz e => by
    obtain ⟨z0, e', he⟩ := (l.mem h Q hQ z).1 hz
    rw [e, hy] at he
    injection he with he
    rw [he] at hh
    simp only [Int.toNat_natCast] at hh
    exact hh rfl
  have hwl : ∀ h : Int, (w.put x (y.1, k, s)).len h = w.len h := fun h => by
    rw [Nw.len_put hy h]
    simp only
    split <;> omega
  refine .inr ⟨hin, y, hy, hless, rfl, U.asked, by rw [← hlen]; exact Int.ofNat_le.2 p4, DaryS n C fp (rs.set y.1.toNat (some ⟨R.r, R.S, U.l, U.pl⟩)),
    ⟨c, C, _, fp, rs.set y.1.toNat (some ⟨R.r, R.S, U.l, U.pl⟩), m2.setRow hR (R' := ⟨R.r, R.S, U.l, U.pl⟩) rfl r3 (fun z hz => .inl hz) e3 (fun z hz => ?_) c3 o3,
      ⟨l.fine, by rw [List.length_set]; exact l.hl, fun h => ?_, ?_, fun h Q hQ => ?_, fun h Q hQ z => ?_, fun h Q hQ => ?_⟩, fun z => Iff.rfl⟩, ?_, fun z hz => ?_⟩
  · rcases hz with hz | hz | hz
    · exact .inr (.inl hz)
    · exact .inl hz
    · exact .inr (.inr hz)
  · show w.hs[h]? = some true ↔ _
    rw [l.hs h]
    by_cases hgh : h = y.1.toNat
    · subst hgh
      rw [List.getElem?_set_self hlt]
      exact ⟨fun _ => ⟨_, rfl⟩, fun _ => ⟨R, hR⟩⟩
    · rw [List.getElem?_set_ne (Ne.symm hgh)]
  · rw [List.getElem?_set_ne (by omega)]; exact l.h0
  · rcases hget h Q hQ with ⟨rfl, rfl⟩ | ⟨h5, h6⟩
    · exact p1
    · exact HeapOn.congr l.fine (l.ok h Q h6) fun z hz v hv => (ltW_put w x _ (hne h Q h5 h6 z hz) (hne h Q h5 h6 v hv)).symm
  · rcases hget h Q hQ with ⟨rfl, rfl⟩ | ⟨h5, h6⟩
    · rw [hgg]
      show z ∈ U.l ↔ _
      rw [p2 z, hmem z]
    · exact hmemW h Q h6 z
  · rw [hwl]
    rcases hget h Q hQ with ⟨rfl, rfl⟩ | ⟨h5, h6⟩
    · rw [hgg]
      show (U.l.length : Int) = _
      omega
    · exact l.len h Q h6
  · exact (f0.mono fun _ _ h => h.elim).trans ((e12.mono fun z _ hz => hmS z (.inr (.inl hz))).trans (e3.mono fun z _ hz => hmS z hz))
  · rcases hz with hz | rfl | hz | ⟨j, Q, hQ, hz⟩
    · exact .inl (hmS z (.inr (.inl hz)))
    · exact .inl (hmS z (.inr (.inr rfl)))
    · exact .inl ((hS z).1 (.inr (.inr (.inl hz))))
    · rcases hget j Q hQ with ⟨rfl, rfl⟩ | ⟨h5, h6⟩
      · exact .inl (hmS z (.inl hz))
      · exact .inl ((hS z).1 (.inr (.inr (.inr ⟨j, Q, h6, hz⟩))))

end Go.Proofs.Yteicchpglnamcaa
