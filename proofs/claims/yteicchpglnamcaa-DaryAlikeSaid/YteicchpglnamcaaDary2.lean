/-
  The package dary: a slot comes out.
-/
import Derived.Test.YteicchpglnamcaaDary
set_option linter.unusedVariables false
set_option linter.unusedSimpArgs false
namespace Go.Proofs.Yteicchpglnamcaa
open Go Go.Vc

theorem CellsN.live {H : Hp} {c : Nat} {S : Nat → Prop} {st : Int} {w : Nw} (h : CellsN H c S st w) : ∀ x ∈ w.cs, 0 < x.1 → w.hs[x.1.toNat]? = some true := by
  obtain ⟨cs, len, rt, many, h1, h2⟩ := h
  intro x hx
  rw [h2.cl] at hx
  obtain ⟨y, hy, rfl⟩ := List.mem_map.1 hx
  have h3 := h2.lt y hy
  simp only
  split
  · intro h0
    have h4 := h2.low y.1.toNat (by omega)
    have h5 := h2.idem y.1.toNat (by omega)
    rw [show ((rt y.1.toNat : Nat) : Int).toNat = rt y.1.toNat by omega, h2.hh _ (by omega) h4, h5]
    simp
  · intro h0; omega

theorem dary_Delete_spec {H : Hp} {n : Nat} {S : Nat → Prop} {d st : Int} {w : Nw} (h : DaryAt H n S d st w) (x : Int) : CallH Try.prog n_dary_Nest_Delete [ptr n, i64 x] H fun v H' => Post (
    (¬ InC w.cs x ∧ v = .bool false ∧ H = H') ∨
    (InC w.cs x ∧ v = .bool true ∧ ∃ (c0 : Ce) (q : Nat), w.cs[x.toNat]? = some c0 ∧ (q : Int) ≤ d * (upN d (w.len c0.1 - 1) : Nat) + 1 ∧ ∃ S', DaryAt H' n S' d (min (st + q) 4611686018427387904) (w.put x (0, 0, 0)) ∧ Ext S H H' ∧ ∀ z, S' z → S z ∨ H.size ≤ z)) := by
  obtain ⟨c, C, rv, fp, rs, m, l, hS⟩ := h
  refine c_dary_Nest_Delete ⟨rfl, ?_⟩
  simp (disch := (first | omega | (simp only [size_new, size_newm, size_wr, size_wrm] <;> omega) | fail)) only [go_sem, Nat.reduceBEq, Nat.reduceAdd, Nat.reduceMul, Nat.reduceLeDiff, ↓reduceIte, rd_new_lt, own_new_lt, mp_new_lt, rd_newm_lt, own_newm_lt, mp_newm_lt, rd_wr_ne, own_wr_ne, mp_wr_ne, rd_wrm_ne, own_wrm_ne, mp_wrm_ne, rd_new_eq, own_new_eq, mp_newm_eq, s_dary_Nest_Delete, rd_of_own m.own]
  refine (cellsN_Home_spec m.cells x).mono ?_
  rintro _ H1 (⟨hno, rfl, rfl⟩ | ⟨hin, c0, hc0, rfl, c1, e1⟩)
  · simp (disch := (first | omega | (simp only [size_new, size_newm, size_wr, size_wrm] <;> omega) | fail)) only [go_sem, Nat.reduceBEq, Nat.reduceAdd, Nat.reduceMul, Nat.reduceLeDiff, ↓reduceIte, rd_new_lt, own_new_lt, mp_new_lt, rd_newm_lt, own_newm_lt, mp_newm_lt, rd_wr_ne, own_wr_ne, mp_wr_ne, rd_wrm_ne, own_wrm_ne, mp_wrm_ne, rd_new_eq, own_new_eq, mp_newm_eq]
    exact .inl ⟨hno, rfl, rfl⟩
  obtain ⟨hx0, c0', hc0', hpos⟩ := id hin
  rw [hc0] at hc0'
  injection hc0' with hc0'
  subst hc0'
  obtain ⟨R, hR⟩ := (l.hs c0.1.toNat).1 (m.cells.live _ (List.mem_of_getElem? hc0) hpos)
  have hgg : ((c0.1.toNat : Nat) : Int) = c0.1 := by omega
  have hmem := l.mem _ R hR
  have hlen := l.len _ R hR
  rw [hgg] at hmem hlen
  have hput : (w.put x (0, 0, 0)).cs[x.toNat]? = some (0, 0, 0) := List.getElem?_set_self (List.getElem?_eq_some_iff.1 hc0).1
  have hput2 : ∀ y : Nat, y ≠ x.toNat → (w.put x (0, 0, 0)).cs[y]? = w.cs[y]? := fun y hy => List.getElem?_set_ne (Ne.symm hy)
  have o1 := e1.own m.own m.nC
  have m1 : DaryM H1 n c C rv fp d st w rs := ⟨o1, c1, m.sl.ext e1 (fun b hb h => (m.fpd b hb).2 h), fun i R hR => (m.row i R hR).ext e1 (fun x hx => (m.rowd i R hR x hx).1), m.nC, m.fpd, m.rowd, m.rowrow⟩
  have hlt := (List.getElem?_eq_some_iff.1 hR).1
  have hxR : x ∈ R.l := (hmem x).2 ⟨hx0, c0.2, hc0⟩
  have hInD : ∀ z ∈ R.l, InC w.cs z := fun z hz => by
    obtain ⟨z0, e, he⟩ := (hmem z).1 hz
    exact ⟨z0, _, he, hpos⟩
  obtain ⟨b, o, c', lb, q1, q2, q3, q4⟩ := RdS.get m1.sl.rd (i := c0.1.toNat) (j := 0) (x := ptr R.r) (by omega) (by simp [hR, rwV])
  subst q1
  have hstb := m.cells.st
  have hcsl := m.cells.csl
  have hll : R.l.length ≤ 65536 := by have := (w.len_le c0.1).2; omega
  simp (disch := (first | omega | (simp only [size_new, size_newm, size_wr, size_wrm] <;> omega) | fail)) only [go_sem, Nat.reduceBEq, Nat.reduceAdd, Nat.reduceMul, Nat.reduceLeDiff, ↓reduceIte, rd_new_lt, own_new_lt, mp_new_lt, rd_newm_lt, own_newm_lt, mp_newm_lt, rd_wr_ne, own_wr_ne, mp_wr_ne, rd_wrm_ne, own_wrm_ne, mp_wrm_ne, rd_new_eq, own_new_eq, mp_newm_eq, rd_of_own o1]
  refine ⟨by omega, ?_⟩
  simp (disch := (first | omega | (simp only [size_new, size_newm, size_wr, size_wrm] <;> omega) | fail)) only [go_sem, Nat.reduceBEq, Nat.reduceAdd, Nat.reduceMul, Nat.reduceLeDiff, ↓reduceIte, rd_new_lt, own_new_lt, mp_new_lt, rd_newm_lt, own_newm_lt, mp_newm_lt, rd_wr_ne, own_wr_ne, mp_wr_ne, rd_wrm_ne, own_wrm_ne, mp_wrm_ne, rd_new_eq, own_new_eq, mp_newm_eq, q2, show lb[o + c0.1.toNat * 1]? = some (ptr R.r) from q4]
  refine (sift_Remove_spec (dary_ord (c := c) (rv := .slice (some ⟨b, o, none⟩) rs.length c') (d := d) (st := st) (w := w) m.nC) (m1.row _ R hR) (fun z hz ht => ?_) (n := 0) ⟨by rw [show min (st + ((0 : Nat) : Int)) 4611686018427387904 = st by omega]; exact c1, o1⟩ l.fine x (by omega) (l.ok _ R hR).pl hInD).mono ?_
  · rcases ht with ht | ht
    · exact (m.rowd _ R hR z hz).1 ht
    · exact (m.rowd _ R hR z hz).2.1 ht
  rintro _ H2 (⟨hp, _, _⟩ | ⟨i, hp, rfl, r2, ⟨c2, o2⟩, e2⟩)
  · exact absurd hp ((HeapOn.mem (l.ok _ R hR) x).1 hxR)
  obtain ⟨p1, p2, p3, p4⟩ := HeapOn.remove (ltW_strict w) l.fine (l.ok _ R hR) hp
  generalize hU : removeM (ltW w) d x R.l R.pl i = U at *
  rw [Nat.zero_add] at c2
  simp (disch := (first | omega | (simp only [size_new, size_newm, size_wr, size_wrm] <;> omega) | fail)) only [go_sem, Nat.reduceBEq, Nat.reduceAdd, Nat.reduceMul, Nat.reduceLeDiff, ↓reduceIte, rd_new_lt, own_new_lt, mp_new_lt, rd_newm_lt, own_newm_lt, mp_newm_lt, rd_wr_ne, own_wr_ne, mp_wr_ne, rd_wrm_ne, own_wrm_ne, mp_wrm_ne, rd_new_eq, own_new_eq, mp_newm_eq, rd_of_own o2]
  refine (cellsN_Drop_spec c2 x).mono ?_
  rintro _ H3 (⟨hno, _, _⟩ | ⟨_, rfl, c3, e3⟩)
  · exact absurd hin hno
  simp (disch := (first | omega | (simp only [size_new, size_newm, size_wr, size_wrm] <;> omega) | fail)) only [go_sem, Nat.reduceBEq, Nat.reduceAdd, Nat.reduceMul, Nat.reduceLeDiff, ↓reduceIte, rd_new_lt, own_new_lt, mp_new_lt, rd_newm_lt, own_newm_lt, mp_newm_lt, rd_wr_ne, own_wr_ne, mp_wr_ne, rd_wrm_ne, own_wrm_ne, mp_wrm_ne, rd_new_eq, own_new_eq, mp_newm_eq]
  have o3 := e3.own o2 m.nC
  have e23 : Ext (fun z => R.S z ∨ C z ∨ z = n) H1 H3 := e2.trans (e3.mono fun z _ hz => .inr (.inl hz))
  have r3 := r2.ext e3 (fun z hz => (m.rowd _ R hR z hz).1)
  have hmS : ∀ z, (R.S z ∨ C z ∨ z = n) → S z := fun z hz => (hS z).1 (by
    rcases hz with hz | hz | hz
    · exact .inr (.inr (.inr ⟨_, R, hR, hz⟩))
    · exact .inl hz
    · exact .inr (.inl hz))
  have hget : ∀ (h : Nat) Q, (rs.set c0.1.toNat (some (⟨R.r, R.S, U.1, U.2.1⟩ : Rw)))[h]? = some (some Q) → (h = c0.1.toNat ∧ Q = ⟨R.r, R.S, U.1, U.2.1⟩) ∨ (h ≠ c0.1.toNat ∧ rs[h]? = some (some Q)) := fun h Q hQ => by
    by_cases hh : h = c0.1.toNat
    · subst hh
      rw [List.getElem?_set_self hlt] at hQ
      simp only [Option.some.injEq] at hQ
      exact .inl ⟨rfl, hQ.symm⟩
    · rw [List.getElem?_set_ne (Ne.symm hh)] at hQ
      exact .inr ⟨hh, hQ⟩
  have hi0 : ∀ (h : Nat) Q, rs[h]? = some (some Q) → 0 < h := fun h Q hQ => by
    rcases Nat.eq_zero_or_pos h with hi | hi
    · subst hi; rw [l.h0] at hQ; cases hQ
    · exact hi
  have hne : ∀ (h : Nat) Q, h ≠ c0.1.toNat → rs[h]? = some (some Q) → ∀ y ∈ Q.l, y.toNat ≠ x.toNat := fun h Q hh hQ y hy e => by
    obtain ⟨y0, e', he⟩ := (l.mem h Q hQ y).1 hy
    rw [e, hc0] at he
    injection he with he
    rw [he] at hh
    simp only [Int.toNat_natCast] at hh
    exact hh rfl
  have hneU : ∀ y ∈ U.1, y.toNat ≠ x.toNat := fun y hy e => by
    obtain ⟨h1, h2⟩ := (p3 y).1 hy
    have := ((hmem y).1 h1).1
    omega
  refine .inr ⟨hin, rfl, c0, U.2.2, hc0, ?_, DaryS n C fp (rs.set c0.1.toNat (some ⟨R.r, R.S, U.1, U.2.1⟩)),
    ⟨c, C, _, fp, rs.set c0.1.toNat (some ⟨R.r, R.S, U.1, U.2.1⟩), m1.setRow hR (R' := ⟨R.r, R.S, U.1, U.2.1⟩) rfl r3 (fun z hz => .inl hz) e23 (fun z hz => ?_) c3 o3,
      ⟨l.fine, by rw [List.length_set]; exact l.hl, fun h => ?_, ?_, fun h Q hQ => ?_, fun h Q hQ y => ?_, fun h Q hQ => ?_⟩, fun z => Iff.rfl⟩, ?_, fun z hz => ?_⟩
  · rw [← hlen]; exact p4
  · rcases hz with hz | hz | hz
    · exact .inr (.inl hz)
    · exact .inl hz
    · exact .inr (.inr hz)
  · show w.hs[h]? = some true ↔ _
    rw [l.hs h]
    by_cases hgh : h = c0.1.toNat
    · subst hgh
      rw [List.getElem?_set_self hlt]
      exact ⟨fun _ => ⟨_, rfl⟩, fun _ => ⟨R, hR⟩⟩
    · rw [List.getElem?_set_ne (Ne.symm hgh)]
  · rw [List.getElem?_set_ne (by omega)]; exact l.h0
  · rcases hget h Q hQ with ⟨rfl, rfl⟩ | ⟨h5, h6⟩
    · exact HeapOn.congr l.fine p1 fun z hz y hy => (ltW_put w x _ (hneU z hz) (hneU y hy)).symm
    · exact HeapOn.congr l.fine (l.ok h Q h6) fun z hz y hy => (ltW_put w x _ (hne h Q h5 h6 z hz) (hne h Q h5 h6 y hy)).symm
  · by_cases hyx : y.toNat = x.toNat
    · rw [hyx, hput]
      have h0 := hget h Q hQ
      constructor
      · intro hy
        rcases h0 with ⟨rfl, rfl⟩ | ⟨h5, h6⟩
        · exact absurd hyx (hneU y hy)
        · exact absurd hyx (hne h Q h5 h6 y hy)
      · rintro ⟨_, e, he⟩
        injection he with he
        injection he with he1 _
        rcases h0 with ⟨rfl, rfl⟩ | ⟨h5, h6⟩
        · omega
        · have := hi0 h Q h6; omega
    · rw [hput2 _ hyx]
      rcases hget h Q hQ with ⟨rfl, rfl⟩ | ⟨h5, h6⟩
      · rw [hgg]
        show y ∈ U.1 ↔ _
        rw [p3 y, hmem y]
        constructor
        · exact fun h => h.1
        · exact fun h => ⟨h, fun e => hyx (by rw [e])⟩
      · exact l.mem h Q h6 y
  · rcases hget h Q hQ with ⟨rfl, rfl⟩ | ⟨h5, h6⟩
    · rw [hgg, Nw.len_put hc0 c0.1, if_pos ⟨hpos, rfl⟩, if_neg (fun hc => by omega)]
      show (U.1.length : Int) = _
      have := List.length_pos_of_mem hxR
      omega
    · have := hi0 h Q h6
      rw [l.len h Q h6, Nw.len_put hc0 h, if_neg (fun hc => by omega), if_neg (fun hc => by omega)]
      omega
  · exact (e1.mono fun z _ hz => hmS z (.inr (.inl hz))).trans (e23.mono fun z _ hz => hmS z hz)
  · rcases hz with hz | rfl | hz | ⟨i, Q, hQ, hz⟩
    · exact .inl (hmS z (.inr (.inl hz)))
    · exact .inl (hmS z (.inr (.inr rfl)))
    · exact .inl ((hS z).1 (.inr (.inr (.inl hz))))
    · rcases hget i Q hQ with ⟨rfl, rfl⟩ | ⟨h5, h6⟩
      · exact .inl (hmS z (.inl hz))
      · exact .inl ((hS z).1 (.inr (.inr (.inr ⟨i, Q, h6, hz⟩))))

theorem dary_Extract_spec {H : Hp} {n : Nat} {S : Nat → Prop} {d st : Int} {w : Nw} (h : DaryAt H n S d st w) (g : Int) : CallH Try.prog n_dary_Nest_Extract [ptr n, i64 g] H fun v H' => Post (
    ((¬ w.has g ∨ (w.has g ∧ w.len g = 0)) ∧ v = .tuple [i64 0, .bool false].toArray ∧ H = H') ∨
    (w.has g ∧ ∃ x, InC w.cs x ∧ (∃ e, w.cs[x.toNat]? = some (g, e)) ∧ (∀ y, 0 ≤ y → (∃ e, w.cs[y.toNat]? = some (g, e)) → y ≠ x → ltW w x y = true) ∧ v = .tuple [i64 x, .bool true].toArray ∧
      ∃ q : Nat, (q : Int) ≤ d * (upN d (w.len g - 1) : Nat) + 1 ∧ ∃ S', DaryAt H' n S' d (min (st + q) 4611686018427387904) (w.put x (0, 0, 0)) ∧ Ext S H H' ∧ ∀ z, S' z → S z ∨ H.size ≤ z)) := by
  refine c_dary_Nest_Extract ⟨rfl, ?_⟩
  simp (disch := (first | omega | (simp only [size_new, size_newm, size_wr, size_wrm] <;> omega) | fail)) only [go_sem, Nat.reduceBEq, Nat.reduceAdd, Nat.reduceMul, Nat.reduceLeDiff, ↓reduceIte, rd_new_lt, own_new_lt, mp_new_lt, rd_newm_lt, own_newm_lt, mp_newm_lt, rd_wr_ne, own_wr_ne, mp_wr_ne, rd_wrm_ne, own_wrm_ne, mp_wrm_ne, rd_new_eq, own_new_eq, mp_newm_eq, s_dary_Nest_Extract]
  refine (dary_Min_spec h g).mono ?_
  rintro _ _ ⟨⟨hno, rfl⟩ | ⟨hh, h0, rfl⟩ | ⟨hh, x, hx, he, rfl, hleast⟩, rfl⟩
  · simp (disch := (first | omega | (simp only [size_new, size_newm, size_wr, size_wrm] <;> omega) | fail)) only [go_sem, Nat.reduceBEq, Nat.reduceAdd, Nat.reduceMul, Nat.reduceLeDiff, ↓reduceIte, rd_new_lt, own_new_lt, mp_new_lt, rd_newm_lt, own_newm_lt, mp_newm_lt, rd_wr_ne, own_wr_ne, mp_wr_ne, rd_wrm_ne, own_wrm_ne, mp_wrm_ne, rd_new_eq, own_new_eq, mp_newm_eq]
    exact .inl ⟨.inl hno, rfl, rfl⟩
  · simp (disch := (first | omega | (simp only [size_new, size_newm, size_wr, size_wrm] <;> omega) | fail)) only [go_sem, Nat.reduceBEq, Nat.reduceAdd, Nat.reduceMul, Nat.reduceLeDiff, ↓reduceIte, rd_new_lt, own_new_lt, mp_new_lt, rd_newm_lt, own_newm_lt, mp_newm_lt, rd_wr_ne, own_wr_ne, mp_wr_ne, rd_wrm_ne, own_wrm_ne, mp_wrm_ne, rd_new_eq, own_new_eq, mp_newm_eq]
    exact .inl ⟨.inr ⟨hh, h0⟩, rfl, rfl⟩
  · simp (disch := (first | omega | (simp only [size_new, size_newm, size_wr, size_wrm] <;> omega) | fail)) only [go_sem, Nat.reduceBEq, Nat.reduceAdd, Nat.reduceMul, Nat.reduceLeDiff, ↓reduceIte, rd_new_lt, own_new_lt, mp_new_lt, rd_newm_lt, own_newm_lt, mp_newm_lt, rd_wr_ne, own_wr_ne, mp_wr_ne, rd_wrm_ne, own_wrm_ne, mp_wrm_ne, rd_new_eq, own_new_eq, mp_newm_eq]
    refine (dary_Delete_spec h x).mono ?_
    rintro _ H1 (⟨hno, _, _⟩ | ⟨_, rfl, c0, q, hc0, hq, S', d1, e1, hS'⟩)
    · exact absurd hx hno
    simp (disch := (first | omega | (simp only [size_new, size_newm, size_wr, size_wrm] <;> omega) | fail)) only [go_sem, Nat.reduceBEq, Nat.reduceAdd, Nat.reduceMul, Nat.reduceLeDiff, ↓reduceIte, rd_new_lt, own_new_lt, mp_new_lt, rd_newm_lt, own_newm_lt, mp_newm_lt, rd_wr_ne, own_wr_ne, mp_wr_ne, rd_wrm_ne, own_wrm_ne, mp_wrm_ne, rd_new_eq, own_new_eq, mp_newm_eq]
    obtain ⟨e, he'⟩ := id he
    rw [hc0] at he'
    injection he' with he'
    subst he'
    exact .inr ⟨hh, x, hx, he, hleast, rfl, q, hq, S', d1, e1, hS'⟩

end Go.Proofs.Yteicchpglnamcaa
