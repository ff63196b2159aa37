/-
  The package shed: a slot comes in; the first slot; a slot comes out; a slot's entry is another one.
-/
import Derived.Test.YteicchpglnamcaaShed
set_option linter.unusedVariables false
set_option linter.unusedSimpArgs false
namespace Go.Proofs.Yteicchpglnamcaa
open Go Go.Vc

theorem AtOk.offs {l at_ at' : List Int} (h : AtOk l at_) (ho : ∀ z ∈ l, 0 ≤ z → at'[z.toNat]? = at_[z.toNat]?) : AtOk l at' := fun i x hx => by
  obtain ⟨a, b⟩ := h i x hx
  exact ⟨a, by rw [ho x (List.mem_of_getElem? hx) a]; exact b⟩

theorem getSet {ps : List (Option Pl)} {g : Nat} {P' : Pl} (hg : g < ps.length) {h : Nat} {Q : Pl} (hQ : (ps.set g (some P'))[h]? = some (some Q)) : (h = g ∧ Q = P') ∨ (h ≠ g ∧ ps[h]? = some (some Q)) := by
  by_cases hh : h = g
  · subst hh
    rw [List.getElem?_set_self hg] at hQ
    simp only [Option.some.injEq] at hQ
    exact .inl ⟨rfl, hQ.symm⟩
  · rw [List.getElem?_set_ne (Ne.symm hh)] at hQ
    exact .inr ⟨hh, hQ⟩

theorem ShedL.apart {w : Nw} {ps : List (Option Pl)} {at_ : List Int} (l : ShedL w ps at_) {h h' : Nat} {P Q : Pl} (hP : ps[h]? = some (some P)) (hQ : ps[h']? = some (some Q)) (hne : h ≠ h') {z : Int} (hz : z ∈ P.l) : z ∉ Q.l := fun hz' => by
  obtain ⟨_, e1, h1⟩ := (l.mem h P hP z).1 hz
  obtain ⟨_, e2, h2⟩ := (l.mem h' Q hQ z).1 hz'
  rw [h1] at h2
  injection h2 with h2
  injection h2 with h2 _
  omega

theorem ShedL.pos {w : Nw} {ps : List (Option Pl)} {at_ : List Int} (l : ShedL w ps at_) {h : Nat} {P : Pl} (hP : ps[h]? = some (some P)) : 0 < h := by
  rcases Nat.eq_zero_or_pos h with hi | hi
  · subst hi; rw [l.h0] at hP; cases hP
  · exact hi

theorem shed_Insert_spec {H : Hp} {n : Nat} {S : Nat → Prop} {st : Int} {w : Nw} (h : ShedAt H n S st w) (g x k s : Int) : CallH Try.prog n_shed_Nest_Insert [ptr n, i64 g, i64 x, ent k s] H fun v H' => Post (
    (¬ (w.has g ∧ (0 ≤ x ∧ x < w.cs.length) ∧ ¬ InC w.cs x) ∧ v = .bool false ∧ ShedAt H' n S st w ∧ Ext S H H') ∨
    ((w.has g ∧ (0 ≤ x ∧ x < w.cs.length) ∧ ¬ InC w.cs x) ∧ v = .bool true ∧ ∃ (S' : Nat → Prop) (q : Nat), (q : Int) ≤ upN 2 (w.len g) ∧ (0 < w.len g → 0 < q) ∧ ShedAt H' n S' (min (st + q) 4611686018427387904) (w.put x (g, k, s)) ∧ Ext S H H' ∧ ∀ z, S' z → S z ∨ H.size ≤ z)) := by
  obtain ⟨c, C, rv, fr, fa, ps, at_, m, l, hS⟩ := h
  refine c_shed_Nest_Insert ⟨rfl, ?_⟩
  simp (disch := (first | omega | (simp only [size_new, size_newm, size_wr, size_wrm] <;> omega) | fail)) only [go_sem, Nat.reduceBEq, Nat.reduceAdd, Nat.reduceMul, Nat.reduceLeDiff, ↓reduceIte, rd_new_lt, own_new_lt, mp_new_lt, rd_newm_lt, own_newm_lt, mp_newm_lt, rd_wr_ne, own_wr_ne, mp_wr_ne, rd_wrm_ne, own_wrm_ne, mp_wrm_ne, rd_new_eq, own_new_eq, mp_newm_eq, s_shed_Nest_Insert]
  have f0 : Fresh H (H.new 70 [i64 k, u64 s]) := (Ext.refl _ _).new _ _
  have b0 : (H.new 70 [i64 k, u64 s]).own H.size = some [i64 k, u64 s] := own_new _ _ _
  have m0 := m.ext f0 (fun _ _ h => h)
  generalize H.new 70 [i64 k, u64 s] = H0 at *
  obtain ⟨av, ho0, ha0⟩ := m0.own
  simp (disch := (first | omega | (simp only [size_new, size_newm, size_wr, size_wrm] <;> omega) | fail)) only [go_sem, Nat.reduceBEq, Nat.reduceAdd, Nat.reduceMul, Nat.reduceLeDiff, ↓reduceIte, rd_new_lt, own_new_lt, mp_new_lt, rd_newm_lt, own_newm_lt, mp_newm_lt, rd_wr_ne, own_wr_ne, mp_wr_ne, rd_wrm_ne, own_wrm_ne, mp_wrm_ne, rd_new_eq, own_new_eq, mp_newm_eq, rd_of_own ho0, rd_of_own b0]
  refine (cellsN_Put_spec m0.cells g x k s).mono ?_
  rintro _ H1 (⟨hno, rfl, c1, e1⟩ | ⟨hyes, rfl, c1, e1⟩)
  · simp (disch := (first | omega | (simp only [size_new, size_newm, size_wr, size_wrm] <;> omega) | fail)) only [go_sem, Nat.reduceBEq, Nat.reduceAdd, Nat.reduceMul, Nat.reduceLeDiff, ↓reduceIte, rd_new_lt, own_new_lt, mp_new_lt, rd_newm_lt, own_newm_lt, mp_newm_lt, rd_wr_ne, own_wr_ne, mp_wr_ne, rd_wrm_ne, own_wrm_ne, mp_wrm_ne, rd_new_eq, own_new_eq, mp_newm_eq]
    exact .inl ⟨hno, rfl, ⟨c, C, rv, fr, fa, ps, at_, m0.cellsTo c1 e1, l, hS⟩, (f0.mono fun _ _ h => h.elim).trans (e1.mono fun z _ hz => (hS z).1 (.inl hz))⟩
  obtain ⟨hh, ⟨hx0, hx1⟩, hin⟩ := id hyes
  obtain ⟨P, hP⟩ := l.hasR hh
  have h1 := hh.1
  have hgg : ((g.toNat : Nat) : Int) = g := by omega
  have hmem := l.mem _ P hP
  have hlen := l.len _ P hP
  rw [hgg] at hmem hlen
  obtain ⟨c0, hc0⟩ : ∃ c0, w.cs[x.toNat]? = some c0 := ⟨_, List.getElem?_eq_getElem (by omega)⟩
  have hc1 : ¬ 0 < c0.1 := fun h => hin ⟨hx0, c0, hc0, h⟩
  have hput : (w.put x (g, k, s)).cs[x.toNat]? = some (g, k, s) := List.getElem?_set_self (by omega)
  have hput2 : ∀ y : Nat, y ≠ x.toNat → (w.put x (g, k, s)).cs[y]? = w.cs[y]? := fun y hy => List.getElem?_set_ne (Ne.symm hy)
  have hxno : ∀ (i : Nat) Q, ps[i]? = some (some Q) → x ∉ Q.l := fun i Q hQ hm => by
    obtain ⟨_, e, he⟩ := (l.mem i Q hQ x).1 hm
    rw [hc0] at he
    injection he with he
    subst he
    have := l.pos hQ
    exact hc1 (by simp only; omega)
  have hne : ∀ (i : Nat) Q, ps[i]? = some (some Q) → ∀ y ∈ Q.l, 0 ≤ y ∧ y.toNat ≠ x.toNat := fun i Q hQ y hy => by
    have h2 := ((l.mem i Q hQ y).1 hy).1
    exact ⟨h2, fun e => hxno i Q hQ (by rw [show x = y by omega]; exact hy)⟩
  have hlc : ∀ (i : Nat) Q, ps[i]? = some (some Q) → HeapL (ltW (w.put x (g, k, s))) 2 Q.l := fun i Q hQ =>
    (l.ok i Q hQ).congr2 fun z hz y hy => (ltW_put w x _ (hne i Q hQ z hz).2 (hne i Q hQ y hy).2).symm
  have hInD : ∀ z ∈ P.l, InC (w.put x (g, k, s)).cs z := fun z hz => by
    obtain ⟨z0, e, he⟩ := (hmem z).1 hz
    exact ⟨z0, _, by rw [hput2 _ (hne _ P hP z hz).2]; exact he, by simp only; omega⟩
  have hInx : InC (w.put x (g, k, s)).cs x := ⟨hx0, _, hput, by simp only; omega⟩
  have hlp : (w.put x (g, k, s)).len g = w.len g + 1 := by rw [Nw.len_put hc0 g, if_neg (fun hc => by omega), if_pos ⟨by omega, rfl⟩]; omega
  have hcl := m.cells.csl
  have hll : P.l.length < 65536 := by
    have := ((w.put x (g, k, s)).len_le g).2
    have h5 : (w.put x (g, k, s)).cs.length = w.cs.length := List.length_set ..
    omega
  have m1 := m0.cellsTo c1 e1
  obtain ⟨av1, ho1, _⟩ := m1.own
  obtain ⟨f, cc, lb, rfl, rfl, hf, hfx, hgl⟩ := m1.atp hP
  simp (disch := (first | omega | (simp only [size_new, size_newm, size_wr, size_wrm] <;> omega) | fail)) only [go_sem, Nat.reduceBEq, Nat.reduceAdd, Nat.reduceMul, Nat.reduceLeDiff, ↓reduceIte, rd_new_lt, own_new_lt, mp_new_lt, rd_newm_lt, own_newm_lt, mp_newm_lt, rd_wr_ne, own_wr_ne, mp_wr_ne, rd_wrm_ne, own_wrm_ne, mp_wrm_ne, rd_new_eq, own_new_eq, mp_newm_eq, rd_of_own ho1]
  refine ⟨by omega, ?_⟩
  simp (disch := (first | omega | (simp only [size_new, size_newm, size_wr, size_wrm] <;> omega) | fail)) only [go_sem, Nat.reduceBEq, Nat.reduceAdd, Nat.reduceMul, Nat.reduceLeDiff, ↓reduceIte, rd_new_lt, own_new_lt, mp_new_lt, rd_newm_lt, own_newm_lt, mp_newm_lt, rd_wr_ne, own_wr_ne, mp_wr_ne, rd_wrm_ne, own_wrm_ne, mp_wrm_ne, rd_new_eq, own_new_eq, mp_newm_eq, rd_of_own hf, Nat.mul_one, hfx, plV]
  refine (heap_Push_spec (m1.toPile hP) (l.ato _ P hP) hll ⟨hx0, by rw [l.atl]; omega⟩ (hxno _ P hP) hInx hInD (hlc _ P hP)).mono ?_
  rintro _ H2 ⟨rfl, fp', l', at', q, pm, hat', hheap, hmem', hlen', hatl, hoff, hq, hq0, e2, hfp'⟩
  simp (disch := (first | omega | (simp only [size_new, size_newm, size_wr, size_wrm] <;> omega) | fail)) only [go_sem, Nat.reduceBEq, Nat.reduceAdd, Nat.reduceMul, Nat.reduceLeDiff, ↓reduceIte, rd_new_lt, own_new_lt, mp_new_lt, rd_newm_lt, own_newm_lt, mp_newm_lt, rd_wr_ne, own_wr_ne, mp_wr_ne, rd_wrm_ne, own_wrm_ne, mp_wrm_ne, rd_new_eq, own_new_eq, mp_newm_eq]
  have z0 := f0.size
  have z1 := e1.size
  have hT : ∀ z, (C z ∨ P.fp = some z ∨ fa = some z ∨ z = P.r) → C z ∨ P.S z ∨ fa = some z := fun z hz => by
    rcases hz with hz | hz | hz | hz
    · exact .inl hz
    · exact .inr (.inl (.inr hz))
    · exact .inr (.inr hz)
    · exact .inr (.inl (.inl hz))
  have hmS : ∀ z, (C z ∨ P.fp = some z ∨ fa = some z ∨ z = P.r) → S z := fun z hz => (hS z).1 (by
    rcases hT z hz with hz | hz | hz
    · exact .inl hz
    · exact .inr (.inr (.inr (.inr ⟨_, P, hP, hz⟩)))
    · exact .inr (.inr (.inr (.inl hz))))
  refine .inr ⟨hyes, rfl, ShedS n C (some f) fa (ps.set g.toNat (some ⟨P.r, fp', l'⟩)), q, by rw [← hlen]; exact Int.ofNat_le.2 hq, fun h => hq0 (by omega),
    ⟨c, C, _, some f, fa, _, at', m1.setPile hP (P' := ⟨P.r, fp', l'⟩) rfl pm hfp' e2 hT,
      ⟨by rw [List.length_set]; exact l.hl, fun h => ?_, ?_, fun h Q hQ => ?_, fun h Q hQ => ?_, fun h Q hQ y => ?_, fun h Q hQ => ?_, ?_⟩, fun z => Iff.rfl⟩, ?_, fun z hz => ?_⟩
  · show w.hs[h]? = some true ↔ _
    rw [l.hs h]
    by_cases hgh : h = g.toNat
    · subst hgh
      rw [List.getElem?_set_self hgl]
      exact ⟨fun _ => ⟨_, rfl⟩, fun _ => ⟨P, hP⟩⟩
    · rw [List.getElem?_set_ne (Ne.symm hgh)]
  · rw [List.getElem?_set_ne (by omega)]; exact l.h0
  · rcases getSet hgl hQ with ⟨rfl, rfl⟩ | ⟨h5, h6⟩
    · exact hheap
    · exact hlc h Q h6
  · rcases getSet hgl hQ with ⟨rfl, rfl⟩ | ⟨h5, h6⟩
    · exact hat'
    · exact (l.ato h Q h6).offs fun z hz z0 => hoff z z0 (fun e => hxno h Q h6 (e ▸ hz)) (l.apart h6 hP h5 hz)
  · rcases getSet hgl hQ with ⟨rfl, rfl⟩ | ⟨h5, h6⟩
    · rw [hgg]
      show y ∈ l' ↔ _
      rw [hmem' y]
      constructor
      · rintro (rfl | hy)
        · exact ⟨hx0, _, hput⟩
        · obtain ⟨y0, e, he⟩ := (hmem y).1 hy
          exact ⟨y0, e, by rw [hput2 _ (hne _ P hP y hy).2]; exact he⟩
      · rintro ⟨y0, e, he⟩
        by_cases hyx : y.toNat = x.toNat
        · exact .inl (by omega)
        · rw [hput2 _ hyx] at he
          exact .inr ((hmem y).2 ⟨y0, e, he⟩)
    · rw [l.mem h Q h6 y]
      by_cases hyx : y.toNat = x.toNat
      · rw [hyx, hput, hc0]
        constructor
        · rintro ⟨y0, e, he⟩
          injection he with he
          subst he
          have := l.pos h6
          exact absurd (show (0 : Int) < ((h : Nat) : Int) by omega) hc1
        · rintro ⟨y0, e, he⟩
          injection he with he
          injection he with he1 he2
          omega
      · rw [hput2 _ hyx]
  · rcases getSet hgl hQ with ⟨rfl, rfl⟩ | ⟨h5, h6⟩
    · rw [hgg, hlp]
      show (l'.length : Int) = _
      omega
    · rw [l.len h Q h6, Nw.len_put hc0 h, if_neg (fun hc => by omega), if_neg (fun hc => by omega)]
      omega
  · rw [hatl, l.atl]; exact (List.length_set ..).symm
  · exact (f0.mono fun _ _ h => h.elim).trans ((e1.mono fun z _ hz => hmS z (.inl hz)).trans (e2.mono fun z _ hz => hmS z hz))
  · rcases hz with hz | rfl | hz | hz | ⟨i, Q, hQ, hz⟩
    · exact .inl (hmS z (.inl hz))
    · exact .inl ((hS z).1 (.inr (.inl rfl)))
    · exact .inl ((hS z).1 (.inr (.inr (.inl hz))))
    · exact .inl (hmS z (.inr (.inr (.inl hz))))
    · rcases getSet hgl hQ with ⟨rfl, rfl⟩ | ⟨h5, h6⟩
      · rcases hz with rfl | hz
        · exact .inl (hmS _ (.inr (.inr (.inr rfl))))
        · rcases hfp' with h | ⟨y, h, h7⟩
          · exact .inl (hmS z (.inr (.inl (h ▸ hz))))
          · simp only at hz
            rw [h] at hz; injection hz with hz; exact .inr (by omega)
      · exact .inl ((hS z).1 (.inr (.inr (.inr (.inr ⟨i, Q, h6, hz⟩)))))

theorem shed_Min_spec {H : Hp} {n : Nat} {S : Nat → Prop} {st : Int} {w : Nw} (h : ShedAt H n S st w) (g : Int) : CallH Try.prog n_shed_Nest_Min [ptr n, i64 g] H fun v H' => Post (
    ((w.len g = 0 ∧ v = .tuple [i64 0, .bool false].toArray) ∨ ∃ x, w.first g x ∧ v = .tuple [i64 x, .bool true].toArray) ∧ H = H') := by
  obtain ⟨c, C, rv, fr, fa, ps, at_, m, l, hS⟩ := h
  obtain ⟨av, ho, ha⟩ := m.own
  refine c_shed_Nest_Min ⟨rfl, ?_⟩
  simp (disch := (first | omega | (simp only [size_new, size_newm, size_wr, size_wrm] <;> omega) | fail)) only [go_sem, Nat.reduceBEq, Nat.reduceAdd, Nat.reduceMul, Nat.reduceLeDiff, ↓reduceIte, rd_new_lt, own_new_lt, mp_new_lt, rd_newm_lt, own_newm_lt, mp_newm_lt, rd_wr_ne, own_wr_ne, mp_wr_ne, rd_wrm_ne, own_wrm_ne, mp_wrm_ne, rd_new_eq, own_new_eq, mp_newm_eq, s_shed_Nest_Min, rd_of_own ho]
  refine (cellsN_Len_spec m.cells g).mono ?_
  rintro _ _ ⟨rfl, rfl⟩
  simp (disch := (first | omega | (simp only [size_new, size_newm, size_wr, size_wrm] <;> omega) | fail)) only [go_sem, Nat.reduceBEq, Nat.reduceAdd, Nat.reduceMul, Nat.reduceLeDiff, ↓reduceIte, rd_new_lt, own_new_lt, mp_new_lt, rd_newm_lt, own_newm_lt, mp_newm_lt, rd_wr_ne, own_wr_ne, mp_wr_ne, rd_wrm_ne, own_wrm_ne, mp_wrm_ne, rd_new_eq, own_new_eq, mp_newm_eq]
  refine Both.dec (fun h0 => ?_) (fun h0 => ?_)
  · simp (disch := (first | omega | (simp only [size_new, size_newm, size_wr, size_wrm] <;> omega) | fail)) only [go_sem, Nat.reduceBEq, Nat.reduceAdd, Nat.reduceMul, Nat.reduceLeDiff, ↓reduceIte, rd_new_lt, own_new_lt, mp_new_lt, rd_newm_lt, own_newm_lt, mp_newm_lt, rd_wr_ne, own_wr_ne, mp_wr_ne, rd_wrm_ne, own_wrm_ne, mp_wrm_ne, rd_new_eq, own_new_eq, mp_newm_eq]
    exact ⟨.inl ⟨h0, rfl⟩, rfl⟩
  have hg : 0 < g := by
    by_cases hg : 0 < g
    · exact hg
    · exact absurd (Nw.len0.2 (.inl (by omega))) h0
  have hhas : w.has g := by
    refine ⟨by omega, ?_⟩
    by_cases hx : w.hs[g.toNat]? = some true
    · exact hx
    · refine absurd (Nw.len0.2 (.inr fun i c hc e => hx ?_)) h0
      have := m.cells.live c (List.mem_of_getElem? hc) (by omega)
      rwa [e] at this
  obtain ⟨P, hP⟩ := l.hasR hhas
  have hgg : ((g.toNat : Nat) : Int) = g := by omega
  have hmem := l.mem _ P hP
  have hlen := l.len _ P hP
  rw [hgg] at hmem hlen
  have hll := (w.len_le g).1
  obtain ⟨f, cc, lb, rfl, rfl, hf, hfx, hgl⟩ := m.atp hP
  obtain ⟨sv, hr, hs⟩ := m.pile _ P hP
  obtain ⟨x, hx⟩ : ∃ x, P.l[0]? = some x := ⟨_, List.getElem?_eq_getElem (by omega)⟩
  obtain ⟨b, c2, l2, rfl, hfp, hb, hbx, _, hlb⟩ := Sl.at_ hs (i := 0) (x := i64 x) (by simp [hx])
  simp (disch := (first | omega | (simp only [size_new, size_newm, size_wr, size_wrm] <;> omega) | fail)) only [go_sem, Nat.reduceBEq, Nat.reduceAdd, Nat.reduceMul, Nat.reduceLeDiff, ↓reduceIte, rd_new_lt, own_new_lt, mp_new_lt, rd_newm_lt, own_newm_lt, mp_newm_lt, rd_wr_ne, own_wr_ne, mp_wr_ne, rd_wrm_ne, own_wrm_ne, mp_wrm_ne, rd_new_eq, own_new_eq, mp_newm_eq, rd_of_own ho]
  refine ⟨by omega, ?_⟩
  simp (disch := (first | omega | (simp only [size_new, size_newm, size_wr, size_wrm] <;> omega) | fail)) only [go_sem, Nat.reduceBEq, Nat.reduceAdd, Nat.reduceMul, Nat.reduceLeDiff, ↓reduceIte, rd_new_lt, own_new_lt, mp_new_lt, rd_newm_lt, own_newm_lt, mp_newm_lt, rd_wr_ne, own_wr_ne, mp_wr_ne, rd_wrm_ne, own_wrm_ne, mp_wrm_ne, rd_new_eq, own_new_eq, mp_newm_eq, rd_of_own hf, Nat.mul_one, hfx, plV, rd_of_own hr]
  refine ⟨by omega, ?_⟩
  simp (disch := (first | omega | (simp only [size_new, size_newm, size_wr, size_wrm] <;> omega) | fail)) only [go_sem, Nat.reduceBEq, Nat.reduceAdd, Nat.reduceMul, Nat.reduceLeDiff, ↓reduceIte, rd_new_lt, own_new_lt, mp_new_lt, rd_newm_lt, own_newm_lt, mp_newm_lt, rd_wr_ne, own_wr_ne, mp_wr_ne, rd_wrm_ne, own_wrm_ne, mp_wrm_ne, rd_new_eq, own_new_eq, mp_newm_eq, rd_of_own hb, show l2[Int.toNat 0 * 1]? = some (i64 x) from hbx]
  have hxP := List.mem_of_getElem? hx
  obtain ⟨hx0, e, he⟩ := (hmem x).1 hxP
  refine ⟨.inr ⟨x, ⟨hg, hx0, ⟨e, he⟩, fun y hy ⟨e', he'⟩ hne => ?_⟩, rfl⟩, rfl⟩
  have hyP := (hmem y).2 ⟨hy, e', he'⟩
  obtain ⟨j, hj⟩ := List.getElem?_of_mem hyP
  have hjl := (List.getElem?_eq_some_iff.1 hj).1
  have h5 := heap_first (ltW_strict w) fine2 (l.ok _ P hP) j j (Nat.le_refl _) hjl
  rw [getD_of hj, getD_of hx] at h5
  rcases (ltW_strict w).tot x y (Ne.symm hne) with h6 | h6
  · exact h6
  · rw [h5] at h6; cases h6

end Go.Proofs.Yteicchpglnamcaa
