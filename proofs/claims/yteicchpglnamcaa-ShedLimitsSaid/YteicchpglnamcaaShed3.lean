/-
  The package shed: a slot comes out; a slot's entry is another one.
-/
import Derived.Test.YteicchpglnamcaaShed2
set_option linter.unusedVariables false
set_option linter.unusedSimpArgs false
namespace Go.Proofs.Yteicchpglnamcaa
open Go Go.Vc

theorem ltW_lower2 (w : Nw) {x : Int} {y : Ce} {k s : Int} {z : Int} (hz : z.toNat ≠ x.toNat) {u : Int} (hu : u.toNat ≠ x.toNat) : ltW (w.put x (y.1, k, s)) z u = ltW w z u := ltW_put w x _ hz hu

theorem shed_Delete_spec {H : Hp} {n : Nat} {S : Nat → Prop} {st : Int} {w : Nw} (h : ShedAt H n S st w) (x : Int) : CallH Try.prog n_shed_Nest_Delete [ptr n, i64 x] H fun v H' => Post (
    (¬ InC w.cs x ∧ v = .bool false ∧ H = H') ∨
    (InC w.cs x ∧ v = .bool true ∧ ∃ (c0 : Ce) (q : Nat), w.cs[x.toNat]? = some c0 ∧ q ≤ 2 * upN 2 (w.len c0.1 - 1) ∧ ∃ S', ShedAt H' n S' (min (st + q) 4611686018427387904) (w.put x (0, 0, 0)) ∧ Ext S H H' ∧ ∀ z, S' z → S z ∨ H.size ≤ z)) := by
  obtain ⟨c, C, rv, fr, fa, ps, at_, m, l, hS⟩ := h
  obtain ⟨av, ho, ha⟩ := m.own
  refine c_shed_Nest_Delete ⟨rfl, ?_⟩
  simp (disch := (first | omega | (simp only [size_new, size_newm, size_wr, size_wrm] <;> omega) | fail)) only [go_sem, Nat.reduceBEq, Nat.reduceAdd, Nat.reduceMul, Nat.reduceLeDiff, ↓reduceIte, rd_new_lt, own_new_lt, mp_new_lt, rd_newm_lt, own_newm_lt, mp_newm_lt, rd_wr_ne, own_wr_ne, mp_wr_ne, rd_wrm_ne, own_wrm_ne, mp_wrm_ne, rd_new_eq, own_new_eq, mp_newm_eq, s_shed_Nest_Delete, rd_of_own ho]
  refine (cellsN_Home_spec m.cells x).mono ?_
  rintro _ H1 (⟨hno, rfl, rfl⟩ | ⟨hin, c0, hc0, rfl, c1, e1⟩)
  · simp (disch := (first | omega | (simp only [size_new, size_newm, size_wr, size_wrm] <;> omega) | fail)) only [go_sem, Nat.reduceBEq, Nat.reduceAdd, Nat.reduceMul, Nat.reduceLeDiff, ↓reduceIte, rd_new_lt, own_new_lt, mp_new_lt, rd_newm_lt, own_newm_lt, mp_newm_lt, rd_wr_ne, own_wr_ne, mp_wr_ne, rd_wrm_ne, own_wrm_ne, mp_wrm_ne, rd_new_eq, own_new_eq, mp_newm_eq]
    exact .inl ⟨hno, rfl, rfl⟩
  obtain ⟨hx0, c0', hc0', hpos⟩ := id hin
  rw [hc0] at hc0'
  injection hc0' with hc0'
  subst hc0'
  obtain ⟨P, hP⟩ := (l.hs c0.1.toNat).1 (m.cells.live _ (List.mem_of_getElem? hc0) hpos)
  have hgg : ((c0.1.toNat : Nat) : Int) = c0.1 := by omega
  have hmem := l.mem _ P hP
  have hlen := l.len _ P hP
  rw [hgg] at hmem hlen
  have hput : (w.put x (0, 0, 0)).cs[x.toNat]? = some (0, 0, 0) := List.getElem?_set_self (List.getElem?_eq_some_iff.1 hc0).1
  have hput2 : ∀ y : Nat, y ≠ x.toNat → (w.put x (0, 0, 0)).cs[y]? = w.cs[y]? := fun y hy => List.getElem?_set_ne (Ne.symm hy)
  have m1 := m.cellsTo c1 e1
  obtain ⟨av1, ho1, ha1⟩ := m1.own
  have hxP : x ∈ P.l := (hmem x).2 ⟨hx0, c0.2, hc0⟩
  have hInD : ∀ z ∈ P.l, InC w.cs z := fun z hz => by
    obtain ⟨z0, e, he⟩ := (hmem z).1 hz
    exact ⟨z0, _, he, hpos⟩
  obtain ⟨i, hi⟩ := List.getElem?_of_mem hxP
  have hil := (List.getElem?_eq_some_iff.1 hi).1
  obtain ⟨_, hai⟩ := l.ato _ P hP i x hi
  obtain ⟨f, cc, lb, rfl, rfl, hf, hfx, hgl⟩ := m1.atp hP
  obtain ⟨fa', ac, la, rfl, hfa, hfa1, hfa2, _, _⟩ := Sl.at_ ha1 (i := x.toNat) (x := i64 i) (by simp [hai])
  have hal := (List.getElem?_eq_some_iff.1 hai).1
  simp (disch := (first | omega | (simp only [size_new, size_newm, size_wr, size_wrm] <;> omega) | fail)) only [go_sem, Nat.reduceBEq, Nat.reduceAdd, Nat.reduceMul, Nat.reduceLeDiff, ↓reduceIte, rd_new_lt, own_new_lt, mp_new_lt, rd_newm_lt, own_newm_lt, mp_newm_lt, rd_wr_ne, own_wr_ne, mp_wr_ne, rd_wrm_ne, own_wrm_ne, mp_wrm_ne, rd_new_eq, own_new_eq, mp_newm_eq, rd_of_own ho1]
  refine ⟨by omega, ?_⟩
  simp (disch := (first | omega | (simp only [size_new, size_newm, size_wr, size_wrm] <;> omega) | fail)) only [go_sem, Nat.reduceBEq, Nat.reduceAdd, Nat.reduceMul, Nat.reduceLeDiff, ↓reduceIte, rd_new_lt, own_new_lt, mp_new_lt, rd_newm_lt, own_newm_lt, mp_newm_lt, rd_wr_ne, own_wr_ne, mp_wr_ne, rd_wrm_ne, own_wrm_ne, mp_wrm_ne, rd_new_eq, own_new_eq, mp_newm_eq, rd_of_own hf, Nat.mul_one, hfx, plV, rd_of_own ho1]
  refine ⟨by omega, ?_⟩
  simp (disch := (first | omega | (simp only [size_new, size_newm, size_wr, size_wrm] <;> omega) | fail)) only [go_sem, Nat.reduceBEq, Nat.reduceAdd, Nat.reduceMul, Nat.reduceLeDiff, ↓reduceIte, rd_new_lt, own_new_lt, mp_new_lt, rd_newm_lt, own_newm_lt, mp_newm_lt, rd_wr_ne, own_wr_ne, mp_wr_ne, rd_wrm_ne, own_wrm_ne, mp_wrm_ne, rd_new_eq, own_new_eq, mp_newm_eq, rd_of_own hfa1, Nat.mul_one, hfa2]
  refine (heap_Remove_spec (m1.toPile hP) (l.ato _ P hP) hil hInD (l.ok _ P hP)).mono ?_
  rintro _ H2 ⟨l', at', q, o, hq⟩
  rw [getD_of hi] at o
  have hT : ∀ z, (C z ∨ P.fp = some z ∨ fa = some z ∨ z = P.r) → C z ∨ P.S z ∨ fa = some z := fun z hz => by
    rcases hz with hz | hz | hz | hz
    · exact .inl hz
    · exact .inr (.inl (.inr hz))
    · exact .inr (.inr hz)
    · exact .inr (.inl (.inl hz))
  have hmS : ∀ z, (C z ∨ P.fp = some z ∨ fa = some z ∨ z = P.r) → S z := fun z hz => (hS z).1 (by
    rcases hT z hz with hz | hz | hz
    · exact .inl hz
    · exact .inr (.inr (.inr (.inr ⟨_, P, hP, hz⟩)))
    · exact .inr (.inr (.inr (.inl hz))))
  have m2 := m1.setPile hP (P' := ⟨P.r, P.fp, l'⟩) rfl o.pile (.inl rfl) o.ext hT
  obtain ⟨av2, ho2, _⟩ := m2.own
  simp (disch := (first | omega | (simp only [size_new, size_newm, size_wr, size_wrm] <;> omega) | fail)) only [go_sem, Nat.reduceBEq, Nat.reduceAdd, Nat.reduceMul, Nat.reduceLeDiff, ↓reduceIte, rd_new_lt, own_new_lt, mp_new_lt, rd_newm_lt, own_newm_lt, mp_newm_lt, rd_wr_ne, own_wr_ne, mp_wr_ne, rd_wrm_ne, own_wrm_ne, mp_wrm_ne, rd_new_eq, own_new_eq, mp_newm_eq, rd_of_own ho2]
  refine (cellsN_Drop_spec m2.cells x).mono ?_
  rintro _ H3 (⟨hno, _, _⟩ | ⟨_, rfl, c3, e3⟩)
  · exact absurd hin hno
  simp (disch := (first | omega | (simp only [size_new, size_newm, size_wr, size_wrm] <;> omega) | fail)) only [go_sem, Nat.reduceBEq, Nat.reduceAdd, Nat.reduceMul, Nat.reduceLeDiff, ↓reduceIte, rd_new_lt, own_new_lt, mp_new_lt, rd_newm_lt, own_newm_lt, mp_newm_lt, rd_wr_ne, own_wr_ne, mp_wr_ne, rd_wrm_ne, own_wrm_ne, mp_wrm_ne, rd_new_eq, own_new_eq, mp_newm_eq]
  have m3 := m2.cellsTo c3 e3
  have hne : ∀ (h : Nat) Q, h ≠ c0.1.toNat → ps[h]? = some (some Q) → ∀ y ∈ Q.l, y.toNat ≠ x.toNat := fun h Q hh hQ y hy e => by
    obtain ⟨y0, e', he⟩ := (l.mem h Q hQ y).1 hy
    rw [e, hc0] at he
    injection he with he
    rw [he] at hh
    simp only [Int.toNat_natCast] at hh
    exact hh rfl
  have hneU : ∀ y ∈ l', y.toNat ≠ x.toNat := fun y hy e => by
    obtain ⟨h1, h2⟩ := (o.mem y).1 hy
    have := ((hmem y).1 h1).1
    omega
  refine .inr ⟨hin, rfl, c0, q, hc0, by rw [← hlen]; exact hq, ShedS n C (some f) fa (ps.set c0.1.toNat (some ⟨P.r, P.fp, l'⟩)),
    ⟨c, C, _, some f, fa, _, at', m3, ⟨by rw [List.length_set]; exact l.hl, fun h => ?_, ?_, fun h Q hQ => ?_, fun h Q hQ => ?_, fun h Q hQ y => ?_, fun h Q hQ => ?_, ?_⟩, fun z => Iff.rfl⟩, ?_, fun z hz => ?_⟩
  · show w.hs[h]? = some true ↔ _
    rw [l.hs h]
    by_cases hgh : h = c0.1.toNat
    · subst hgh
      rw [List.getElem?_set_self hgl]
      exact ⟨fun _ => ⟨_, rfl⟩, fun _ => ⟨P, hP⟩⟩
    · rw [List.getElem?_set_ne (Ne.symm hgh)]
  · rw [List.getElem?_set_ne (by omega)]; exact l.h0
  · rcases getSet hgl hQ with ⟨rfl, rfl⟩ | ⟨h5, h6⟩
    · exact o.heap.congr2 fun z hz y hy => (ltW_put w x _ (hneU z hz) (hneU y hy)).symm
    · exact (l.ok h Q h6).congr2 fun z hz y hy => (ltW_put w x _ (hne h Q h5 h6 z hz) (hne h Q h5 h6 y hy)).symm
  · rcases getSet hgl hQ with ⟨rfl, rfl⟩ | ⟨h5, h6⟩
    · exact o.ok
    · exact (l.ato h Q h6).offs fun z hz z0 => o.off z z0 (l.apart h6 hP h5 hz)
  · by_cases hyx : y.toNat = x.toNat
    · rw [hyx, hput]
      have h0 := getSet hgl hQ
      constructor
      · intro hy
        rcases h0 with ⟨rfl, rfl⟩ | ⟨h5, h6⟩
        · exact absurd hyx (hneU y hy)
        · exact absurd hyx (hne h Q h5 h6 y hy)
      · rintro ⟨_, e, he⟩
        injection he with he
        injection he with he1 _
        rcases h0 with ⟨rfl, rfl⟩ | ⟨h5, h6⟩
        · omega
        · have := l.pos h6; omega
    · rw [hput2 _ hyx]
      rcases getSet hgl hQ with ⟨rfl, rfl⟩ | ⟨h5, h6⟩
      · rw [hgg]
        show y ∈ l' ↔ _
        rw [o.mem y, hmem y]
        constructor
        · exact fun h => h.1
        · exact fun h => ⟨h, fun e => hyx (by rw [e])⟩
      · exact l.mem h Q h6 y
  · rcases getSet hgl hQ with ⟨rfl, rfl⟩ | ⟨h5, h6⟩
    · rw [hgg, Nw.len_put hc0 c0.1, if_pos ⟨hpos, rfl⟩, if_neg (fun hc => by omega)]
      show (l'.length : Int) = _
      have := o.len
      omega
    · have := l.pos h6
      rw [l.len h Q h6, Nw.len_put hc0 h, if_neg (fun hc => by omega), if_neg (fun hc => by omega)]
      omega
  · rw [o.atl, l.atl]; exact (List.length_set ..).symm
  · exact (e1.mono fun z _ hz => hmS z (.inl hz)).trans ((o.ext.mono fun z _ hz => hmS z hz).trans (e3.mono fun z _ hz => hmS z (.inl hz)))
  · rcases hz with hz | rfl | hz | hz | ⟨i, Q, hQ, hz⟩
    · exact .inl (hmS z (.inl hz))
    · exact .inl ((hS z).1 (.inr (.inl rfl)))
    · exact .inl ((hS z).1 (.inr (.inr (.inl hz))))
    · exact .inl (hmS z (.inr (.inr (.inl hz))))
    · rcases getSet hgl hQ with ⟨rfl, rfl⟩ | ⟨h5, h6⟩
      · rcases hz with rfl | hz
        · exact .inl (hmS _ (.inr (.inr (.inr rfl))))
        · exact .inl (hmS z (.inr (.inl hz)))
      · exact .inl ((hS z).1 (.inr (.inr (.inr (.inr ⟨i, Q, h6, hz⟩)))))

theorem shed_Extract_spec {H : Hp} {n : Nat} {S : Nat → Prop} {st : Int} {w : Nw} (h : ShedAt H n S st w) (g : Int) : CallH Try.prog n_shed_Nest_Extract [ptr n, i64 g] H fun v H' => Post (
    (w.len g = 0 ∧ v = .tuple [i64 0, .bool false].toArray ∧ H = H') ∨
    (∃ x, w.first g x ∧ v = .tuple [i64 x, .bool true].toArray ∧ ∃ q : Nat, q ≤ 2 * upN 2 (w.len g - 1) ∧ ∃ S', ShedAt H' n S' (min (st + q) 4611686018427387904) (w.put x (0, 0, 0)) ∧ Ext S H H' ∧ ∀ z, S' z → S z ∨ H.size ≤ z)) := by
  refine c_shed_Nest_Extract ⟨rfl, ?_⟩
  simp (disch := (first | omega | (simp only [size_new, size_newm, size_wr, size_wrm] <;> omega) | fail)) only [go_sem, Nat.reduceBEq, Nat.reduceAdd, Nat.reduceMul, Nat.reduceLeDiff, ↓reduceIte, rd_new_lt, own_new_lt, mp_new_lt, rd_newm_lt, own_newm_lt, mp_newm_lt, rd_wr_ne, own_wr_ne, mp_wr_ne, rd_wrm_ne, own_wrm_ne, mp_wrm_ne, rd_new_eq, own_new_eq, mp_newm_eq, s_shed_Nest_Extract]
  refine (shed_Min_spec h g).mono ?_
  rintro _ _ ⟨⟨h0, rfl⟩ | ⟨x, hx, rfl⟩, rfl⟩
  · simp (disch := (first | omega | (simp only [size_new, size_newm, size_wr, size_wrm] <;> omega) | fail)) only [go_sem, Nat.reduceBEq, Nat.reduceAdd, Nat.reduceMul, Nat.reduceLeDiff, ↓reduceIte, rd_new_lt, own_new_lt, mp_new_lt, rd_newm_lt, own_newm_lt, mp_newm_lt, rd_wr_ne, own_wr_ne, mp_wr_ne, rd_wrm_ne, own_wrm_ne, mp_wrm_ne, rd_new_eq, own_new_eq, mp_newm_eq]
    exact .inl ⟨h0, rfl, rfl⟩
  · simp (disch := (first | omega | (simp only [size_new, size_newm, size_wr, size_wrm] <;> omega) | fail)) only [go_sem, Nat.reduceBEq, Nat.reduceAdd, Nat.reduceMul, Nat.reduceLeDiff, ↓reduceIte, rd_new_lt, own_new_lt, mp_new_lt, rd_newm_lt, own_newm_lt, mp_newm_lt, rd_wr_ne, own_wr_ne, mp_wr_ne, rd_wrm_ne, own_wrm_ne, mp_wrm_ne, rd_new_eq, own_new_eq, mp_newm_eq]
    refine (shed_Delete_spec h x).mono ?_
    rintro _ H1 (⟨hno, _, _⟩ | ⟨_, rfl, c0, q, hc0, hq, S', d1, e1, hS'⟩)
    · exact absurd hx.inC hno
    simp (disch := (first | omega | (simp only [size_new, size_newm, size_wr, size_wrm] <;> omega) | fail)) only [go_sem, Nat.reduceBEq, Nat.reduceAdd, Nat.reduceMul, Nat.reduceLeDiff, ↓reduceIte, rd_new_lt, own_new_lt, mp_new_lt, rd_newm_lt, own_newm_lt, mp_newm_lt, rd_wr_ne, own_wr_ne, mp_wr_ne, rd_wrm_ne, own_wrm_ne, mp_wrm_ne, rd_new_eq, own_new_eq, mp_newm_eq]
    obtain ⟨e, he'⟩ := hx.2.2.1
    rw [hc0] at he'
    injection he' with he'
    subst he'
    exact .inr ⟨x, hx, rfl, q, hq, S', d1, e1, hS'⟩

theorem shed_Decrease_spec {H : Hp} {n : Nat} {S : Nat → Prop} {st : Int} {w : Nw} (h : ShedAt H n S st w) (x k s : Int) : CallH Try.prog n_shed_Nest_Decrease [ptr n, i64 x, ent k s] H fun v H' => Post (
    (¬ (InC w.cs x ∧ ∀ y, w.cs[x.toNat]? = some y → ¬ lessE y.2.1 y.2.2 k s) ∧ v = .bool false ∧ ShedAt H' n S st w ∧ Fresh H H') ∨
    (InC w.cs x ∧ ∃ y, w.cs[x.toNat]? = some y ∧ ¬ lessE y.2.1 y.2.2 k s ∧ v = .bool true ∧ ∃ q : Nat, q ≤ 2 * upN 2 (w.len y.1 - 1) ∧ ∃ S', ShedAt H' n S' (min (st + q) 4611686018427387904) (w.put x (y.1, k, s)) ∧ Ext S H H' ∧ ∀ z, S' z → S z ∨ H.size ≤ z)) := by
  obtain ⟨c, C, rv, fr, fa, ps, at_, m, l, hS⟩ := h
  refine c_shed_Nest_Decrease ⟨rfl, ?_⟩
  simp (disch := (first | omega | (simp only [size_new, size_newm, size_wr, size_wrm] <;> omega) | fail)) only [go_sem, Nat.reduceBEq, Nat.reduceAdd, Nat.reduceMul, Nat.reduceLeDiff, ↓reduceIte, rd_new_lt, own_new_lt, mp_new_lt, rd_newm_lt, own_newm_lt, mp_newm_lt, rd_wr_ne, own_wr_ne, mp_wr_ne, rd_wrm_ne, own_wrm_ne, mp_wrm_ne, rd_new_eq, own_new_eq, mp_newm_eq, s_shed_Nest_Decrease]
  have f0 : Fresh H (H.new 70 [i64 k, u64 s]) := (Ext.refl _ _).new _ _
  have b0 : (H.new 70 [i64 k, u64 s]).own H.size = some [i64 k, u64 s] := own_new _ _ _
  have m0 := m.ext f0 (fun _ _ h => h)
  generalize H.new 70 [i64 k, u64 s] = H0 at *
  obtain ⟨av, ho0, ha0⟩ := m0.own
  simp (disch := (first | omega | (simp only [size_new, size_newm, size_wr, size_wrm] <;> omega) | fail)) only [go_sem, Nat.reduceBEq, Nat.reduceAdd, Nat.reduceMul, Nat.reduceLeDiff, ↓reduceIte, rd_new_lt, own_new_lt, mp_new_lt, rd_newm_lt, own_newm_lt, mp_newm_lt, rd_wr_ne, own_wr_ne, mp_wr_ne, rd_wrm_ne, own_wrm_ne, mp_wrm_ne, rd_new_eq, own_new_eq, mp_newm_eq, rd_of_own ho0, rd_of_own b0]
  refine (cellsN_Lower_spec m0.cells x k s).mono ?_
  rintro _ H1 (⟨hno, rfl, c1, e1⟩ | ⟨hin, rfl, y, hy, hless, c1, e1⟩)
  · simp (disch := (first | omega | (simp only [size_new, size_newm, size_wr, size_wrm] <;> omega) | fail)) only [go_sem, Nat.reduceBEq, Nat.reduceAdd, Nat.reduceMul, Nat.reduceLeDiff, ↓reduceIte, rd_new_lt, own_new_lt, mp_new_lt, rd_newm_lt, own_newm_lt, mp_newm_lt, rd_wr_ne, own_wr_ne, mp_wr_ne, rd_wrm_ne, own_wrm_ne, mp_wrm_ne, rd_new_eq, own_new_eq, mp_newm_eq]
    exact .inl ⟨hno, rfl, ⟨c, C, rv, fr, fa, ps, at_, m0.ext e1 (fun _ _ h => h), l, hS⟩, f0.trans e1⟩
  have m1 := m0.cellsTo c1 e1
  obtain ⟨av1, ho1, ha1⟩ := m1.own
  simp (disch := (first | omega | (simp only [size_new, size_newm, size_wr, size_wrm] <;> omega) | fail)) only [go_sem, Nat.reduceBEq, Nat.reduceAdd, Nat.reduceMul, Nat.reduceLeDiff, ↓reduceIte, rd_new_lt, own_new_lt, mp_new_lt, rd_newm_lt, own_newm_lt, mp_newm_lt, rd_wr_ne, own_wr_ne, mp_wr_ne, rd_wrm_ne, own_wrm_ne, mp_wrm_ne, rd_new_eq, own_new_eq, mp_newm_eq, rd_of_own ho1]
  obtain ⟨hx0, y', hy', hpos⟩ := id hin
  rw [hy] at hy'
  injection hy' with hy'
  subst hy'
  have hput : (w.put x (y.1, k, s)).cs[x.toNat]? = some (y.1, k, s) := List.getElem?_set_self (List.getElem?_eq_some_iff.1 hy).1
  have hput2 : ∀ z : Nat, z ≠ x.toNat → (w.put x (y.1, k, s)).cs[z]? = w.cs[z]? := fun z hz => List.getElem?_set_ne (Ne.symm hz)
  have hin' : InC (w.put x (y.1, k, s)).cs x := ⟨hx0, _, hput, hpos⟩
  refine (cellsN_Home_spec c1 x).mono ?_
  rintro _ H2 (⟨hno, _, _⟩ | ⟨_, y2, hy2, rfl, c2, e2⟩)
  · exact absurd hin' hno
  rw [hput] at hy2
  injection hy2 with hy2
  subst hy2
  have m2 := m1.cellsTo c2 e2
  obtain ⟨av2, ho2, ha2⟩ := m2.own
  obtain ⟨P, hP⟩ := (l.hs y.1.toNat).1 (m.cells.live _ (List.mem_of_getElem? hy) hpos)
  have hgg : ((y.1.toNat : Nat) : Int) = y.1 := by omega
  have hmemW : ∀ (h : Nat) Q, ps[h]? = some (some Q) → ∀ z : Int, z ∈ Q.l ↔ 0 ≤ z ∧ ∃ e, (w.put x (y.1, k, s)).cs[z.toNat]? = some (((h : Nat) : Int), e) := fun h Q hQ z => by
    rw [l.mem h Q hQ z]
    by_cases hzx : z.toNat = x.toNat
    · rw [hzx, hput, hy]
      constructor
      · rintro ⟨z0, e, he⟩
        injection he with he
        exact ⟨z0, (k, s), by rw [he]⟩
      · rintro ⟨z0, e, he⟩
        injection he with he
        injection he with he1 _
        exact ⟨z0, y.2, by rw [← he1]⟩
    · rw [hput2 _ hzx]
  have hmem := hmemW _ P hP
  have hlen := l.len _ P hP
  rw [hgg] at hmem hlen
  have hxP : x ∈ P.l := (hmem x).2 ⟨hx0, _, hput⟩
  have hInD : ∀ z ∈ P.l, InC (w.put x (y.1, k, s)).cs z := fun z hz => by
    obtain ⟨z0, e, he⟩ := (hmem z).1 hz
    exact ⟨z0, _, he, hpos⟩
  obtain ⟨i, hi⟩ := List.getElem?_of_mem hxP
  have hil := (List.getElem?_eq_some_iff.1 hi).1
  obtain ⟨_, hai⟩ := l.ato _ P hP i x hi
  have hal := (List.getElem?_eq_some_iff.1 hai).1
  obtain ⟨f, cc, lb, rfl, rfl, hf, hfx, hgl⟩ := m2.atp hP
  obtain ⟨fa', ac, la, rfl, hfa, hfa1, hfa2, _, _⟩ := Sl.at_ ha2 (i := x.toNat) (x := i64 i) (by simp [hai])
  have hz0 : ∀ j, j < P.l.length → j ≠ i → (P.l.getD j 0).toNat ≠ x.toNat := fun j hj hne e => by
    have hgj : P.l[j]? = some (P.l.getD j 0) := by rw [List.getD_eq_getElem?_getD, List.getElem?_eq_getElem hj]; rfl
    have h0 := ((hmem _).1 (List.mem_of_getElem? hgj)).1
    rw [show P.l.getD j 0 = x by omega] at hgj
    exact hne ((l.ato _ P hP).uniq hgj hi)
  have hA : HeapBut (ltW (w.put x (y.1, k, s))) 2 P.l i := by
    have hb := (l.ok _ P hP).but (ltW_strict w) fine2 i
    refine ⟨fun j h1 h2 h3 h4 => ?_, fun j h1 h2 h3 h4 => ?_⟩
    · have := pa_lt fine2 h1
      rw [ltW_put w x _ (hz0 j h2 h3) (hz0 _ (by omega) h4)]
      exact hb.1 j h1 h2 h3 h4
    · have := pa_lt fine2 h1
      have := pa_lt fine2 h4
      rw [ltW_put w x _ (hz0 j h2 (by omega)) (hz0 _ (by omega) (by omega))]
      exact hb.2 j h1 h2 h3 h4
  simp (disch := (first | omega | (simp only [size_new, size_newm, size_wr, size_wrm] <;> omega) | fail)) only [go_sem, Nat.reduceBEq, Nat.reduceAdd, Nat.reduceMul, Nat.reduceLeDiff, ↓reduceIte, rd_new_lt, own_new_lt, mp_new_lt, rd_newm_lt, own_newm_lt, mp_newm_lt, rd_wr_ne, own_wr_ne, mp_wr_ne, rd_wrm_ne, own_wrm_ne, mp_wrm_ne, rd_new_eq, own_new_eq, mp_newm_eq, rd_of_own ho2]
  refine ⟨by omega, ?_⟩
  simp (disch := (first | omega | (simp only [size_new, size_newm, size_wr, size_wrm] <;> omega) | fail)) only [go_sem, Nat.reduceBEq, Nat.reduceAdd, Nat.reduceMul, Nat.reduceLeDiff, ↓reduceIte, rd_new_lt, own_new_lt, mp_new_lt, rd_newm_lt, own_newm_lt, mp_newm_lt, rd_wr_ne, own_wr_ne, mp_wr_ne, rd_wrm_ne, own_wrm_ne, mp_wrm_ne, rd_new_eq, own_new_eq, mp_newm_eq, rd_of_own hf, Nat.mul_one, hfx, plV, rd_of_own ho2]
  refine ⟨by omega, ?_⟩
  simp (disch := (first | omega | (simp only [size_new, size_newm, size_wr, size_wrm] <;> omega) | fail)) only [go_sem, Nat.reduceBEq, Nat.reduceAdd, Nat.reduceMul, Nat.reduceLeDiff, ↓reduceIte, rd_new_lt, own_new_lt, mp_new_lt, rd_newm_lt, own_newm_lt, mp_newm_lt, rd_wr_ne, own_wr_ne, mp_wr_ne, rd_wrm_ne, own_wrm_ne, mp_wrm_ne, rd_new_eq, own_new_eq, mp_newm_eq, rd_of_own hfa1, Nat.mul_one, hfa2]
  refine (heap_Fix_spec (m2.toPile hP) (l.ato _ P hP) hil hInD hA).mono ?_
  rintro _ H3 ⟨rfl, l', at', q, o, hheap, hq⟩
  simp (disch := (first | omega | (simp only [size_new, size_newm, size_wr, size_wrm] <;> omega) | fail)) only [go_sem, Nat.reduceBEq, Nat.reduceAdd, Nat.reduceMul, Nat.reduceLeDiff, ↓reduceIte, rd_new_lt, own_new_lt, mp_new_lt, rd_newm_lt, own_newm_lt, mp_newm_lt, rd_wr_ne, own_wr_ne, mp_wr_ne, rd_wrm_ne, own_wrm_ne, mp_wrm_ne, rd_new_eq, own_new_eq, mp_newm_eq]
  have e12 := e1.trans e2
  have hT : ∀ z, (C z ∨ P.fp = some z ∨ fa = some z) → C z ∨ P.S z ∨ fa = some z := fun z hz => by
    rcases hz with hz | hz | hz
    · exact .inl hz
    · exact .inr (.inl (.inr hz))
    · exact .inr (.inr hz)
  have hmS : ∀ z, (C z ∨ P.fp = some z ∨ fa = some z) → S z := fun z hz => (hS z).1 (by
    rcases hT z hz with hz | hz | hz
    · exact .inl hz
    · exact .inr (.inr (.inr (.inr ⟨_, P, hP, hz⟩)))
    · exact .inr (.inr (.inr (.inl hz))))
  have hne : ∀ (h : Nat) Q, h ≠ y.1.toNat → ps[h]? = some (some Q) → ∀ z ∈ Q.l, z.toNat ≠ x.toNat := fun h Q hh hQ z hz e => by
    obtain ⟨z0, e', he⟩ := (l.mem h Q hQ z).1 hz
    rw [e, hy] at he
    injection he with he
    rw [he] at hh
    simp only [Int.toNat_natCast] at hh
    exact hh rfl
  have hwl : ∀ h : Int, (w.put x (y.1, k, s)).len h = w.len h := fun h => by
    rw [Nw.len_put hy h]
    simp only
    split <;> omega
  have hol := o.len
  refine .inr ⟨hin, y, hy, hless, rfl, q, by rw [← hlen]; exact hq, ShedS n C (some f) fa (ps.set y.1.toNat (some ⟨P.r, P.fp, l'⟩)),
    ⟨c, C, _, some f, fa, _, at', m2.setPile hP (P' := ⟨P.r, P.fp, l'⟩) rfl o.pile (.inl rfl) o.ext hT,
      ⟨by rw [List.length_set]; exact l.hl, fun h => ?_, ?_, fun h Q hQ => ?_, fun h Q hQ => ?_, fun h Q hQ z => ?_, fun h Q hQ => ?_, ?_⟩, fun z => Iff.rfl⟩, ?_, fun z hz => ?_⟩
  · show w.hs[h]? = some true ↔ _
    rw [l.hs h]
    by_cases hgh : h = y.1.toNat
    · subst hgh
      rw [List.getElem?_set_self hgl]
      exact ⟨fun _ => ⟨_, rfl⟩, fun _ => ⟨P, hP⟩⟩
    · rw [List.getElem?_set_ne (Ne.symm hgh)]
  · rw [List.getElem?_set_ne (by omega)]; exact l.h0
  · rcases getSet hgl hQ with ⟨rfl, rfl⟩ | ⟨h5, h6⟩
    · exact hheap
    · exact (l.ok h Q h6).congr2 fun z hz v hv => (ltW_put w x _ (hne h Q h5 h6 z hz) (hne h Q h5 h6 v hv)).symm
  · rcases getSet hgl hQ with ⟨rfl, rfl⟩ | ⟨h5, h6⟩
    · exact o.ok
    · exact (l.ato h Q h6).offs fun z hz z0 => o.off z z0 (l.apart h6 hP h5 hz)
  · rcases getSet hgl hQ with ⟨rfl, rfl⟩ | ⟨h5, h6⟩
    · rw [hgg]
      show z ∈ l' ↔ _
      rw [o.mem z, hmem z]
    · exact hmemW h Q h6 z
  · rw [hwl]
    rcases getSet hgl hQ with ⟨rfl, rfl⟩ | ⟨h5, h6⟩
    · rw [hgg]
      show (l'.length : Int) = _
      omega
    · exact l.len h Q h6
  · rw [o.atl, l.atl]; exact (List.length_set ..).symm
  · exact (f0.mono fun _ _ h => h.elim).trans ((e12.mono fun z _ hz => hmS z (.inl hz)).trans (o.ext.mono fun z _ hz => hmS z hz))
  · rcases hz with hz | rfl | hz | hz | ⟨j, Q, hQ, hz⟩
    · exact .inl (hmS z (.inl hz))
    · exact .inl ((hS z).1 (.inr (.inl rfl)))
    · exact .inl ((hS z).1 (.inr (.inr (.inl hz))))
    · exact .inl (hmS z (.inr (.inr hz)))
    · rcases getSet hgl hQ with ⟨rfl, rfl⟩ | ⟨h5, h6⟩
      · rcases hz with rfl | hz
        · exact .inl ((hS _).1 (.inr (.inr (.inr (.inr ⟨_, P, hP, .inl rfl⟩)))))
        · exact .inl (hmS z (.inr (.inl hz)))
      · exact .inl ((hS z).1 (.inr (.inr (.inr (.inr ⟨j, Q, h6, hz⟩)))))

end Go.Proofs.Yteicchpglnamcaa
