/-
  The package shed: what a nest of piles is in memory; a new one; one heap more; a slot comes in; the first slot; a slot comes out.
-/
import Derived.Test.YteicchpglnamcaaPile3
import Derived.Test.YteicchpglnamcaaCellsW
set_option linter.unusedVariables false
set_option linter.unusedSimpArgs false
namespace Go.Proofs.Yteicchpglnamcaa
open Go Go.Vc

/-- A pile of a nest: its block, that of its slots, its things. -/
structure Pl where
  r : Nat
  fp : Option Nat
  l : List Int

def Pl.S (P : Pl) (x : Nat) : Prop := x = P.r ∨ P.fp = some x

def plV : Option Pl → Value
  | none => .pointer none
  | some P => ptr P.r

/-- A nest of piles in memory. -/
structure ShedM (H : Hp) (n c : Nat) (C : Nat → Prop) (rv : Value) (fr fa : Option Nat) (st : Int) (w : Nw) (ps : List (Option Pl)) (at_ : List Int) : Prop where
  own : ∃ av, H.own n = some [ptr c, rv, av] ∧ Sl H 1 av at_.length (at_.map i64) fa
  cells : CellsN H c C st w
  sl : Sl H 1 rv ps.length (ps.map plV) fr
  pile : ∀ (h : Nat) P, ps[h]? = some (some P) → ∃ sv, H.own P.r = some [ptr n, sv] ∧ Sl H 1 sv P.l.length (P.l.map i64) P.fp
  nC : ¬ C n
  frd : ∀ b, fr = some b → ¬ C b ∧ b ≠ n ∧ fa ≠ some b
  fad : ∀ b, fa = some b → ¬ C b ∧ b ≠ n
  pd : ∀ (h : Nat) P, ps[h]? = some (some P) → ∀ x, P.S x → ¬ C x ∧ x ≠ n ∧ fr ≠ some x ∧ fa ≠ some x
  pr : ∀ (h : Nat) P, ps[h]? = some (some P) → P.fp ≠ some P.r ∧ P.l.length ≤ 65536
  pp : ∀ (h h' : Nat) P P', ps[h]? = some (some P) → ps[h']? = some (some P') → h ≠ h' → ∀ x, P.S x → ¬ P'.S x

/-- All of its memory. -/
def ShedS (n : Nat) (C : Nat → Prop) (fr fa : Option Nat) (ps : List (Option Pl)) (z : Nat) : Prop := C z ∨ z = n ∨ fr = some z ∨ fa = some z ∨ ∃ (h : Nat) (P : Pl), ps[h]? = some (some P) ∧ P.S z

/-- That the piles are those of the nest. -/
structure ShedL (w : Nw) (ps : List (Option Pl)) (at_ : List Int) : Prop where
  hl : ps.length = w.hs.length
  hs : ∀ h : Nat, w.hs[h]? = some true ↔ ∃ P, ps[h]? = some (some P)
  h0 : ps[0]? = some none
  ok : ∀ (h : Nat) P, ps[h]? = some (some P) → HeapL (ltW w) 2 P.l
  ato : ∀ (h : Nat) P, ps[h]? = some (some P) → AtOk P.l at_
  mem : ∀ (h : Nat) P, ps[h]? = some (some P) → ∀ x : Int, x ∈ P.l ↔ 0 ≤ x ∧ ∃ e, w.cs[x.toNat]? = some (((h : Nat) : Int), e)
  len : ∀ (h : Nat) P, ps[h]? = some (some P) → (P.l.length : Int) = w.len h
  atl : at_.length = w.cs.length

def ShedAt (H : Hp) (n : Nat) (S : Nat → Prop) (st : Int) (w : Nw) : Prop := ∃ c C rv fr fa ps at_, ShedM H n c C rv fr fa st w ps at_ ∧ ShedL w ps at_ ∧ (∀ z, ShedS n C fr fa ps z ↔ S z)

section
variable {H H' : Hp} {n c : Nat} {C T : Nat → Prop} {rv : Value} {fr fa : Option Nat} {st st' : Int} {w w' : Nw} {ps : List (Option Pl)} {at_ at' : List Int} {S : Nat → Prop}

theorem ShedM.slt (h : ShedM H n c C rv fr fa st w ps at_) : ∀ z, ShedS n C fr fa ps z → z < H.size := by
  obtain ⟨av, ho, ha⟩ := h.own
  rintro z (hz | rfl | hz | hz | ⟨i, P, hP, hz⟩)
  · exact h.cells.slt z hz
  · exact own_lt ho
  · exact Sl.lt (hz ▸ h.sl)
  · exact Sl.lt (hz ▸ ha)
  · obtain ⟨sv, h1, h2⟩ := h.pile i P hP
    rcases hz with rfl | hz
    · exact own_lt h1
    · exact Sl.lt (hz ▸ h2)

theorem ShedM.ext (h : ShedM H n c C rv fr fa st w ps at_) (e : Ext T H H') (hd : ∀ z, ShedS n C fr fa ps z → ¬ T z) : ShedM H' n c C rv fr fa st w ps at_ := by
  obtain ⟨av, ho, ha⟩ := h.own
  refine ⟨⟨av, e.own ho (hd n (.inr (.inl rfl))), ha.ext e (fun b hb => hd b (.inr (.inr (.inr (.inl hb)))))⟩, h.cells.ext e (fun x hx => hd x (.inl hx)), h.sl.ext e (fun b hb => hd b (.inr (.inr (.inl hb)))), fun i P hP => ?_, h.nC, h.frd, h.fad, h.pd, h.pr, h.pp⟩
  obtain ⟨sv, h1, h2⟩ := h.pile i P hP
  exact ⟨sv, e.own h1 (hd _ (.inr (.inr (.inr (.inr ⟨i, P, hP, .inl rfl⟩))))), h2.ext e (fun b hb => hd b (.inr (.inr (.inr (.inr ⟨i, P, hP, .inr hb⟩)))))⟩

theorem ShedM.cellsTo (h : ShedM H n c C rv fr fa st w ps at_) (c1 : CellsN H' c C st' w') (e : Ext C H H') : ShedM H' n c C rv fr fa st' w' ps at_ := by
  obtain ⟨av, ho, ha⟩ := h.own
  refine ⟨⟨av, e.own ho h.nC, ha.ext e (fun b hb => (h.fad b hb).1)⟩, c1, h.sl.ext e (fun b hb => (h.frd b hb).1), fun i P hP => ?_, h.nC, h.frd, h.fad, h.pd, h.pr, h.pp⟩
  obtain ⟨sv, h1, h2⟩ := h.pile i P hP
  exact ⟨sv, e.own h1 (h.pd i P hP _ (.inl rfl)).1, h2.ext e (fun b hb => (h.pd i P hP b (.inr hb)).1)⟩

theorem ShedAt.slt (h : ShedAt H n S st w) : ∀ z, S z → z < H.size := by
  obtain ⟨c, C, rv, fr, fa, ps, at_, m, l, hS⟩ := h
  exact fun z hz => m.slt z ((hS z).2 hz)

theorem ShedAt.ext (h : ShedAt H n S st w) (e : Ext T H H') (hd : ∀ z, S z → ¬ T z) : ShedAt H' n S st w := by
  obtain ⟨c, C, rv, fr, fa, ps, at_, m, l, hS⟩ := h
  exact ⟨c, C, rv, fr, fa, ps, at_, m.ext e (fun z hz => hd z ((hS z).1 hz)), l, hS⟩
theorem ShedAt.fresh (h : ShedAt H n S st w) (e : Fresh H H') : ShedAt H' n S st w := h.ext e fun _ _ h => h
theorem ShedAt.stb (h : ShedAt H n S st w) : 0 ≤ st ∧ st ≤ 4611686018427387904 := by
  obtain ⟨c, C, rv, fr, fa, ps, at_, m, l, hS⟩ := h
  exact m.cells.st

/-- One pile of the nest. -/
theorem ShedM.toPile (m : ShedM H n c C rv fr fa st w ps at_) {g : Nat} {P : Pl} (hP : ps[g]? = some (some P)) : PileM H n c C rv P.r P.fp fa st w P.l at_ := by
  have hd := m.pd g P hP
  refine ⟨m.own, m.cells, m.pile g P hP, m.nC, (hd P.r (.inl rfl)).1, (hd P.r (.inl rfl)).2.1, fun b hb => ⟨(hd b (.inr hb)).1, (hd b (.inr hb)).2.1, fun h => (m.pr g P hP).1 (by rw [hb, h]), (hd b (.inr hb)).2.2.2⟩, fun b hb => ⟨(m.fad b hb).1, (m.fad b hb).2, fun h => (hd P.r (.inl rfl)).2.2.2 (by rw [hb, h])⟩, (m.pr g P hP).2⟩

/-- A nest in memory whose one pile is another one. -/
theorem ShedM.setPile (m : ShedM H n c C rv fr fa st w ps at_) {g : Nat} {P P' : Pl} (hP : ps[g]? = some (some P)) (hr : P'.r = P.r) (pm : PileM H' n c C rv P'.r P'.fp fa st' w' P'.l at') (hfp : P'.fp = P.fp ∨ ∃ z, P'.fp = some z ∧ H.size ≤ z)
    (e : Ext T H H') (hT : ∀ z, T z → C z ∨ P.S z ∨ fa = some z) : ShedM H' n c C rv fr fa st' w' (ps.set g (some P')) at' := by
  have hslt := m.slt
  have hg := (List.getElem?_eq_some_iff.1 hP).1
  have hPS : ∀ x, P'.S x → P.S x ∨ H.size ≤ x := fun x hx => by
    rcases hx with rfl | hx
    · exact .inl (.inl hr)
    · rcases hfp with h | ⟨z, h, h5⟩
      · exact .inl (.inr (h ▸ hx))
      · rw [h] at hx; injection hx with hx; exact .inr (by omega)
  have hget : ∀ (h : Nat) Q, (ps.set g (some P'))[h]? = some (some Q) → (h = g ∧ Q = P') ∨ (h ≠ g ∧ ps[h]? = some (some Q)) := fun h Q hQ => by
    by_cases hh : h = g
    · subst hh
      rw [List.getElem?_set_self hg] at hQ
      simp only [Option.some.injEq] at hQ
      exact .inl ⟨rfl, hQ.symm⟩
    · rw [List.getElem?_set_ne (Ne.symm hh)] at hQ
      exact .inr ⟨hh, hQ⟩
  have hd := m.pd g P hP
  refine ⟨pm.own, pm.cells, ?_, fun h Q hQ => ?_, m.nC, m.frd, m.fad, fun h Q hQ x hx => ?_, fun h Q hQ => ?_, fun h h' Q Q' hQ hQ' hne x hx hx' => ?_⟩
  · have h1 : (ps.set g (some P')).map plV = ps.map plV := by
      rw [List.map_set]
      refine List.ext_getElem? fun i => ?_
      by_cases hi : i = g
      · subst hi
        rw [List.getElem?_set_self (by rw [List.length_map]; exact hg), List.getElem?_map, hP]
        simp [plV, hr]
      · rw [List.getElem?_set_ne (Ne.symm hi)]
    rw [h1, List.length_set]
    exact m.sl.ext e (fun b hb ht => by
      rcases hT b ht with h | h | h
      · exact (m.frd b hb).1 h
      · exact (hd b h).2.2.1 hb
      · exact (m.frd b hb).2.2 h)
  · rcases hget h Q hQ with ⟨rfl, rfl⟩ | ⟨h1, h2⟩
    · exact pm.pile
    · obtain ⟨sv, q1, q2⟩ := m.pile h Q h2
      have hno : ∀ x, Q.S x → ¬ T x := fun x hx ht => by
        rcases hT x ht with h3 | h3 | h3
        · exact (m.pd h Q h2 x hx).1 h3
        · exact m.pp h g Q P h2 hP h1 x hx h3
        · exact (m.pd h Q h2 x hx).2.2.2 h3
      exact ⟨sv, e.own q1 (hno _ (.inl rfl)), q2.ext e (fun b hb => hno b (.inr hb))⟩
  · rcases hget h Q hQ with ⟨rfl, rfl⟩ | ⟨h1, h2⟩
    · rcases hPS x hx with h3 | h3
      · exact hd x h3
      · refine ⟨fun hc => ?_, fun hc => ?_, fun hc => ?_, fun hc => ?_⟩
        · have := hslt x (.inl hc); omega
        · have := hslt n (.inr (.inl rfl)); omega
        · have := hslt x (.inr (.inr (.inl hc))); omega
        · have := hslt x (.inr (.inr (.inr (.inl hc)))); omega
    · exact m.pd h Q h2 x hx
  · rcases hget h Q hQ with ⟨rfl, rfl⟩ | ⟨h1, h2⟩
    · refine ⟨fun hc => ?_, pm.ll⟩
      exact (pm.fpd _ hc).2.2.1 rfl
    · exact m.pr h Q h2
  · rcases hget h Q hQ with ⟨rfl, rfl⟩ | ⟨h1, h2⟩
    · rcases hget h' Q' hQ' with ⟨rfl, rfl⟩ | ⟨h3, h4⟩
      · exact hne rfl
      · rcases hPS x hx with h5 | h5
        · exact m.pp _ h' P Q' hP h4 hne x h5 hx'
        · have := hslt x (.inr (.inr (.inr (.inr ⟨h', Q', h4, hx'⟩)))); omega
    · rcases hget h' Q' hQ' with ⟨rfl, rfl⟩ | ⟨h3, h4⟩
      · rcases hPS x hx' with h5 | h5
        · exact m.pp h _ Q P h2 hP hne x hx h5
        · have := hslt x (.inr (.inr (.inr (.inr ⟨h, Q, h2, hx⟩)))); omega
      · exact m.pp h h' Q Q' h2 h4 hne x hx hx'

theorem ShedM.atp (m : ShedM H n c C rv fr fa st w ps at_) {i : Nat} {o : Option Pl} (h : ps[i]? = some o) : ∃ f cc lb, rv = .slice (some ⟨f, 0, none⟩) ps.length cc ∧ fr = some f ∧ H.own f = some lb ∧ lb[i]? = some (plV o) ∧ i < ps.length := by
  obtain ⟨b, cc, lb, h1, h2, h3, h4, h5, _⟩ := Sl.at_ m.sl (i := i) (x := plV o) (by simp [h])
  exact ⟨b, cc, lb, h1, h2, h3, h4, h5⟩

theorem ShedL.hasR (l : ShedL w ps at_) {g : Int} (h : w.has g) : ∃ P, ps[g.toNat]? = some (some P) := (l.hs g.toNat).1 h.2

end

theorem shed_New_spec (cap : Int) (H : Hp) : CallH Try.prog n_shed_New [i64 cap] H fun v H' => Post (
    Fresh H H' ∧ ((¬ (0 ≤ cap ∧ cap ≤ 65536) ∧ v = .tuple [.pointer none, i64 31].toArray) ∨
      ((0 ≤ cap ∧ cap ≤ 65536) ∧ ∃ n S, v = .tuple [ptr n, i64 0].toArray ∧ ShedAt H' n S 0 ⟨[false], List.replicate cap.toNat (0, 0, 0)⟩ ∧ ∀ x, S x → H.size ≤ x))) := by
  refine c_shed_New ⟨rfl, ?_⟩
  simp (disch := (first | omega | (simp only [size_new, size_newm, size_wr, size_wrm] <;> omega) | fail)) only [go_sem, Nat.reduceBEq, Nat.reduceAdd, Nat.reduceMul, Nat.reduceLeDiff, ↓reduceIte, rd_new_lt, own_new_lt, mp_new_lt, rd_newm_lt, own_newm_lt, mp_newm_lt, rd_wr_ne, own_wr_ne, mp_wr_ne, rd_wrm_ne, own_wrm_ne, mp_wrm_ne, rd_new_eq, own_new_eq, mp_newm_eq, s_shed_New]
  refine (cellsN_New_spec cap H).mono ?_
  rintro _ H1 ⟨f1, ⟨hb, rfl⟩ | ⟨hb, c, C, rfl, c1, hC⟩⟩
  · simp (disch := (first | omega | (simp only [size_new, size_newm, size_wr, size_wrm] <;> omega) | fail)) only [go_sem, Nat.reduceBEq, Nat.reduceAdd, Nat.reduceMul, Nat.reduceLeDiff, ↓reduceIte, rd_new_lt, own_new_lt, mp_new_lt, rd_newm_lt, own_newm_lt, mp_newm_lt, rd_wr_ne, own_wr_ne, mp_wr_ne, rd_wrm_ne, own_wrm_ne, mp_wrm_ne, rd_new_eq, own_new_eq, mp_newm_eq]
    exact ⟨f1, .inl ⟨hb, rfl⟩⟩
  simp (disch := (first | omega | (simp only [size_new, size_newm, size_wr, size_wrm] <;> omega) | fail)) only [go_sem, Nat.reduceBEq, Nat.reduceAdd, Nat.reduceMul, Nat.reduceLeDiff, ↓reduceIte, rd_new_lt, own_new_lt, mp_new_lt, rd_newm_lt, own_newm_lt, mp_newm_lt, rd_wr_ne, own_wr_ne, mp_wr_ne, rd_wrm_ne, own_wrm_ne, mp_wrm_ne, rd_new_eq, own_new_eq, mp_newm_eq, decide_true]
  refine ⟨by omega, ?_⟩
  simp (disch := (first | omega | (simp only [size_new, size_newm, size_wr, size_wrm] <;> omega) | fail)) only [go_sem, Nat.reduceBEq, Nat.reduceAdd, Nat.reduceMul, Nat.reduceLeDiff, ↓reduceIte, rd_new_lt, own_new_lt, mp_new_lt, rd_newm_lt, own_newm_lt, mp_newm_lt, rd_wr_ne, own_wr_ne, mp_wr_ne, rd_wrm_ne, own_wrm_ne, mp_wrm_ne, rd_new_eq, own_new_eq, mp_newm_eq]
  have hpad : ∀ k : Nat, padZ [Value.int .i64 0] k = (List.replicate k (0 : Int)).map i64 := fun k => by
    induction k with
    | zero => rfl
    | succ k ih => simp only [padZ, List.replicate_succ, List.flatten_cons, List.map_cons] at *; rw [ih]; rfl
  rw [hpad]
  have hcs := c1.slt
  have z1 := f1.size
  have f3 : Fresh H1 (((H1.new 98 [.pointer none]).new 3 ((List.replicate cap.toNat (0 : Int)).map i64)).new 32 [ptr c, .slice (some ⟨H1.size, 0, none⟩) 1 1, .slice (some ⟨H1.size + 1, 0, none⟩) cap.toNat cap.toNat]) := (((Ext.refl _ _).new _ _).new _ _).new _ _
  have e2 : Ext (fun _ => False) ((H1.new 98 [.pointer none]).new 3 ((List.replicate cap.toNat (0 : Int)).map i64)) (((H1.new 98 [.pointer none]).new 3 ((List.replicate cap.toNat (0 : Int)).map i64)).new 32 [ptr c, .slice (some ⟨H1.size, 0, none⟩) 1 1, .slice (some ⟨H1.size + 1, 0, none⟩) cap.toNat cap.toNat]) := (Ext.refl _ _).new _ _
  have e1 : Ext (fun _ => False) (H1.new 98 [.pointer none]) ((H1.new 98 [.pointer none]).new 3 ((List.replicate cap.toNat (0 : Int)).map i64)) := (Ext.refl _ _).new _ _
  have hno : ∀ (h : Nat) (P : Pl), ([none] : List (Option Pl))[h]? ≠ some (some P) := fun h P hP => by rcases h with _ | h <;> simp at hP
  refine ⟨f1.trans f3, .inr ⟨hb, H1.size + 1 + 1, ShedS (H1.size + 1 + 1) C (some H1.size) (some (H1.size + 1)) [none], rfl, ⟨c, C, _, some H1.size, some (H1.size + 1), [none], List.replicate cap.toNat 0,
    ⟨⟨_, own_new_eq (by simp only [size_new]), ?_⟩, c1.fresh f3, ?_, fun h P hP => absurd hP (hno h P), fun h => by have := hcs _ h; omega, fun b hb => ?_, fun b hb => ?_, fun h P hP => absurd hP (hno h P), fun h P hP => absurd hP (hno h P), fun h h' P P' hP => absurd hP (hno h P)⟩,
    ⟨rfl, fun h => ?_, rfl, fun h P hP => absurd hP (hno h P), fun h P hP => absurd hP (hno h P), fun h P hP => absurd hP (hno h P), fun h P hP => absurd hP (hno h P), by simp⟩, fun z => Iff.rfl⟩, fun x hx => ?_⟩⟩
  · rw [List.length_replicate]
    exact (Sl.lit_at (size := 1) (n := cap.toNat) (xs := (List.replicate cap.toNat (0 : Int)).map i64) (by simp) (by simp only [size_new])).ext e2 (fun _ _ h => h)
  · exact ((Sl.lit_at (size := 1) (n := 1) (xs := [.pointer none]) rfl rfl).ext e1 (fun _ _ h => h)).ext e2 (fun _ _ h => h)
  · injection hb with hb
    subst hb
    exact ⟨fun h => by have := hcs _ h; omega, by omega, fun h => by injection h with h; omega⟩
  · injection hb with hb
    subst hb
    exact ⟨fun h => by have := hcs _ h; omega, by omega⟩
  · rcases h with _ | h <;> simp
  · rcases hx with hx | rfl | hx | hx | ⟨i, P, hP, hx⟩
    · exact hC x hx
    · omega
    · injection hx with hx; omega
    · injection hx with hx; omega
    · exact absurd hP (hno i P)

theorem shed_Make_spec {H : Hp} {n : Nat} {S : Nat → Prop} {st : Int} {w : Nw} (h : ShedAt H n S st w) : CallH Try.prog n_shed_Nest_Make [ptr n] H fun v H' => Post (
    (w.hs.length = 65537 ∧ v = i64 0 ∧ H = H') ∨
    (w.hs.length ≠ 65537 ∧ v = i64 w.hs.length ∧ ∃ S', ShedAt H' n S' st w.make ∧ Ext S H H' ∧ ∀ x, S' x → S x ∨ H.size ≤ x)) := by
  obtain ⟨c, C, rv, fr, fa, ps, at_, m, l, hS⟩ := h
  obtain ⟨av, ho, ha⟩ := m.own
  refine c_shed_Nest_Make ⟨rfl, ?_⟩
  simp (disch := (first | omega | (simp only [size_new, size_newm, size_wr, size_wrm] <;> omega) | fail)) only [go_sem, Nat.reduceBEq, Nat.reduceAdd, Nat.reduceMul, Nat.reduceLeDiff, ↓reduceIte, rd_new_lt, own_new_lt, mp_new_lt, rd_newm_lt, own_newm_lt, mp_newm_lt, rd_wr_ne, own_wr_ne, mp_wr_ne, rd_wrm_ne, own_wrm_ne, mp_wrm_ne, rd_new_eq, own_new_eq, mp_newm_eq, s_shed_Nest_Make, rd_of_own ho]
  refine (cellsN_Make_spec m.cells).mono ?_
  rintro _ H1 (⟨h1, rfl, rfl⟩ | ⟨h1, rfl, C', c1, e1, hC'⟩)
  · simp (disch := (first | omega | (simp only [size_new, size_newm, size_wr, size_wrm] <;> omega) | fail)) only [go_sem, Nat.reduceBEq, Nat.reduceAdd, Nat.reduceMul, Nat.reduceLeDiff, ↓reduceIte, rd_new_lt, own_new_lt, mp_new_lt, rd_newm_lt, own_newm_lt, mp_newm_lt, rd_wr_ne, own_wr_ne, mp_wr_ne, rd_wrm_ne, own_wrm_ne, mp_wrm_ne, rd_new_eq, own_new_eq, mp_newm_eq]
    exact .inl ⟨h1, rfl, rfl⟩
  have hpos : 0 < ps.length := (List.getElem?_eq_some_iff.1 l.h0).1
  have hll := l.hl
  have o1 := e1.own ho m.nC
  simp (disch := (first | omega | (simp only [size_new, size_newm, size_wr, size_wrm] <;> omega) | fail)) only [go_sem, Nat.reduceBEq, Nat.reduceAdd, Nat.reduceMul, Nat.reduceLeDiff, ↓reduceIte, rd_new_lt, own_new_lt, mp_new_lt, rd_newm_lt, own_newm_lt, mp_newm_lt, rd_wr_ne, own_wr_ne, mp_wr_ne, rd_wrm_ne, own_wrm_ne, mp_wrm_ne, rd_new_eq, own_new_eq, mp_newm_eq]
  refine Both.of_true (decide_eq_true (by omega)) ?_
  simp (disch := (first | omega | (simp only [size_new, size_newm, size_wr, size_wrm] <;> omega) | fail)) only [go_sem, Nat.reduceBEq, Nat.reduceAdd, Nat.reduceMul, Nat.reduceLeDiff, ↓reduceIte, rd_new_lt, own_new_lt, mp_new_lt, rd_newm_lt, own_newm_lt, mp_newm_lt, rd_wr_ne, own_wr_ne, mp_wr_ne, rd_wrm_ne, own_wrm_ne, mp_wrm_ne, rd_new_eq, own_new_eq, mp_newm_eq, rd_of_own o1]
  have hsl := m.cells.hsl
  have hslt := m.slt
  have hcs1 := c1.slt
  have z1 := e1.size
  have e2 : Ext (fun _ => False) H1 (H1.new 100 [ptr n, .slice none 0 0]) := (Ext.refl _ _).new _ _
  have hq2 : (H1.new 100 [ptr n, .slice none 0 0]).own H1.size = some [ptr n, .slice none 0 0] := own_new _ _ _
  have z2 : (H1.new 100 [ptr n, .slice none 0 0]).size = H1.size + 1 := by simp only [size_new]
  generalize (H1.new 100 [ptr n, .slice none 0 0]) = H2 at *
  have e0 : Ext (fun _ => False) H2 (H2.new 98 [ptr H1.size]) := (Ext.refl _ _).new _ _
  have sl2 := (m.sl.ext e1 (fun b hb h => (m.frd b hb).1 h)).ext e2 (fun _ _ h => h)
  have o2 := e2.own o1 (fun h => h)
  refine Sl.append (sl2.ext e0 (fun _ _ h => h)) (Sl.lit_at (size := 1) (n := 1) (xs := [ptr H1.size]) rfl z2.symm).rd rfl (by intro v hv; simp only [List.mem_singleton] at hv; subst hv; rfl) (by omega) ?_
  intro v' H3 fr' s3 e3 hfr
  have e03 : Ext (fun z => fr = some z) H2 H3 := (e0.mono fun _ _ h => h.elim).trans' e3 (fun z _ h => h)
  have o3 := e03.own o2 (fun h => (m.frd n h).2.1 rfl)
  obtain ⟨a', cc', hv'⟩ := RdS.val2 s3.rd
  subst hv'
  simp (disch := (first | omega | (simp only [size_new, size_newm, size_wr, size_wrm] <;> omega) | fail)) only [go_sem, Nat.reduceBEq, Nat.reduceAdd, Nat.reduceMul, Nat.reduceLeDiff, ↓reduceIte, rd_new_lt, own_new_lt, mp_new_lt, rd_newm_lt, own_newm_lt, mp_newm_lt, rd_wr_ne, own_wr_ne, mp_wr_ne, rd_wrm_ne, own_wrm_ne, mp_wrm_ne, rd_new_eq, own_new_eq, mp_newm_eq, o3]
  generalize hv' : Value.slice a' (ps.length + 1) cc' = v' at *
  have e4 : Ext (fun z => z = n) H3 (H3.wr n [ptr c, v', av]) := (Ext.refl (fun z => z = n) _).wr (fun _ => rfl) _
  have hn := own_lt ho
  have hfrl : ∀ b, fr = some b → b < H.size := fun b hb => hslt b (.inr (.inr (.inl hb)))
  have hfal : ∀ b, fa = some b → b < H.size := fun b hb => hslt b (.inr (.inr (.inr (.inl hb))))
  have hfr2 : ∀ b, fr' = some b → fr = some b ∨ H2.size ≤ b := fun b hb => by
    rcases hfr with h | ⟨z, h, h5, _⟩
    · exact .inl (h ▸ hb)
    · rw [h] at hb; injection hb with hb; subst hb; rw [size_new] at h5; exact .inr (by omega)
  have hget : ∀ (h : Nat) P, (ps ++ [some (⟨H1.size, none, []⟩ : Pl)])[h]? = some (some P) → ps[h]? = some (some P) ∨ (h = ps.length ∧ P = ⟨H1.size, none, []⟩) := fun h P hP => by
    rcases Nat.lt_trichotomy h ps.length with h5 | h5 | h5
    · rw [List.getElem?_append_left h5] at hP; exact .inl hP
    · subst h5
      rw [List.getElem?_append_right (Nat.le_refl _), Nat.sub_self] at hP
      simp only [List.getElem?_cons_zero, Option.some.injEq] at hP
      exact .inr ⟨rfl, hP.symm⟩
    · rw [List.getElem?_eq_none (by rw [List.length_append, List.length_singleton]; omega)] at hP
      cases hP
  have hold : ∀ (h : Nat) P, ps[h]? = some (some P) → ∀ x, P.S x → x < H.size := fun h P hP x hx => hslt x (.inr (.inr (.inr (.inr ⟨h, P, hP, hx⟩))))
  have hnew : ∀ x, (⟨H1.size, none, []⟩ : Pl).S x → x = H1.size := fun x hx => by rcases hx with h | h; exact h; cases h
  have hcw : ∀ (x : Nat) (e : Int × Int), w.cs[x]? ≠ some (((ps.length : Nat) : Int), e) := fun x e hx => by
    have := (m.cells.home _ (List.mem_of_getElem? hx)).2
    simp only at this
    omega
  refine .inr ⟨h1, rfl, ShedS n C' fr' fa (ps ++ [some ⟨H1.size, none, []⟩]), ⟨c, C', v', fr', fa, ps ++ [some ⟨H1.size, none, []⟩], at_,
    ⟨⟨av, own_wr_same o3, ?_⟩, ?_, ?_, fun h P hP => ?_, fun h => ?_, fun b hb => ⟨fun h => ?_, ?_, fun h => ?_⟩, fun b hb => ⟨fun h => ?_, (m.fad b hb).2⟩, fun h P hP x hx => ⟨fun h => ?_, ?_, fun h => ?_, fun h => ?_⟩, fun h P hP => ?_, fun h h' P P' hP hP' hne x hx hx' => ?_⟩,
    ⟨?_, fun h => ?_, ?_, fun h P hP => ?_, fun h P hP => ?_, fun h P hP x => ?_, fun h P hP => ?_, l.atl⟩, fun z => Iff.rfl⟩, ?_, fun x hx => ?_⟩
  · exact (((ha.ext e1 (fun b hb h => (m.fad b hb).1 h)).ext e2 (fun _ _ h => h)).ext e03 (fun b hb h => (m.frd b h).2.2 hb)).ext e4 (fun b hb h => (m.fad b hb).2 h)
  · exact ((c1.ext e2 (fun _ _ h => h)).ext e03 (fun x hx e => by
      rcases hC' x hx with h | h
      · exact (m.frd x e).1 h
      · have := hfrl x e; omega)).ext e4 (fun x hx e => by
      rcases hC' x hx with h | h
      · exact m.nC (e ▸ h)
      · omega)
  · have := s3.ext e4 (fun b hb e => by
      rcases hfr2 b hb with h | h
      · exact (m.frd b h).2.1 e
      · omega)
    rw [List.length_append, List.map_append]
    exact this
  · rcases hget h P hP with h5 | ⟨rfl, rfl⟩
    · obtain ⟨sv, q1, q2⟩ := m.pile h P h5
      have hd := m.pd h P h5
      exact ⟨sv, e4.own (e03.own (e2.own (e1.own q1 (hd _ (.inl rfl)).1) (fun h => h)) (hd _ (.inl rfl)).2.2.1) (hd _ (.inl rfl)).2.1,
        (((q2.ext e1 (fun b hb => (hd b (.inr hb)).1)).ext e2 (fun _ _ h => h)).ext e03 (fun b hb => (hd b (.inr hb)).2.2.1)).ext e4 (fun b hb => (hd b (.inr hb)).2.1)⟩
    · exact ⟨_, e4.own (e03.own hq2 (fun e => by have := hfrl H1.size e; omega)) (fun e => by have h9 : H1.size = n := e; omega), Sl.nil _ _⟩
  · rcases hC' n h with h | h
    · exact m.nC h
    · omega
  · rcases hfr2 b hb with h5 | h5
    · rcases hC' b h with h6 | h6
      · exact (m.frd b h5).1 h6
      · have := hfrl b h5; omega
    · have := hcs1 b h; omega
  · rcases hfr2 b hb with h | h
    · exact (m.frd b h).2.1
    · omega
  · rcases hfr2 b hb with h5 | h5
    · exact (m.frd b h5).2.2 h
    · have := hfal b h; omega
  · rcases hC' b h with h6 | h6
    · exact (m.fad b hb).1 h6
    · have := hfal b hb; omega
  · rcases hget _ P hP with h5 | ⟨_, rfl⟩
    · rcases hC' x h with h6 | h6
      · exact (m.pd _ P h5 x hx).1 h6
      · have := hold _ P h5 x hx; omega
    · have := hnew x hx; have := hcs1 x h; omega
  · rcases hget _ P hP with h5 | ⟨_, rfl⟩
    · exact (m.pd _ P h5 x hx).2.1
    · have := hnew x hx; omega
  · rcases hget _ P hP with h5 | ⟨_, rfl⟩
    · rcases hfr2 x h with h6 | h6
      · exact (m.pd _ P h5 x hx).2.2.1 h6
      · have := hold _ P h5 x hx; omega
    · have := hnew x hx
      rcases hfr2 x h with h6 | h6
      · have := hfrl x h6; omega
      · omega
  · rcases hget _ P hP with h5 | ⟨_, rfl⟩
    · exact (m.pd _ P h5 x hx).2.2.2 h
    · have := hnew x hx; have := hfal x h; omega
  · rcases hget h P hP with h5 | ⟨_, rfl⟩
    · exact m.pr h P h5
    · exact ⟨(fun h => by cases h), by simp⟩
  · rcases hget _ P hP with h5 | ⟨h5, rfl⟩
    · rcases hget _ P' hP' with h6 | ⟨h6, rfl⟩
      · exact m.pp h h' P P' h5 h6 hne x hx hx'
      · have := hnew x hx'; have := hold _ P h5 x hx; omega
    · rcases hget _ P' hP' with h6 | ⟨h6, rfl⟩
      · have := hnew x hx; have := hold _ P' h6 x hx'; omega
      · omega
  · simp [Nw.make, hll]
  · show (w.hs ++ [true])[h]? = some true ↔ _
    rcases Nat.lt_trichotomy h ps.length with h5 | h5 | h5
    · rw [List.getElem?_append_left h5, List.getElem?_append_left (by omega)]
      exact l.hs h
    · subst h5
      rw [List.getElem?_append_right (Nat.le_refl _), List.getElem?_append_right (by omega), Nat.sub_self, hll, Nat.sub_self]
      simp
    · rw [List.getElem?_eq_none (by rw [List.length_append, List.length_singleton]; omega), List.getElem?_eq_none (by rw [List.length_append, List.length_singleton]; omega)]
      simp
  · rw [List.getElem?_append_left hpos]; exact l.h0
  · rcases hget h P hP with h5 | ⟨rfl, rfl⟩
    · exact l.ok h P h5
    · exact fun j _ hj => by simp at hj
  · rcases hget h P hP with h5 | ⟨rfl, rfl⟩
    · exact l.ato h P h5
    · exact fun i x hx => by simp at hx
  · rcases hget h P hP with h5 | ⟨rfl, rfl⟩
    · exact l.mem h P h5 x
    · simp only [List.not_mem_nil, false_iff]
      rintro ⟨_, e, he⟩
      exact hcw _ _ he
  · rcases hget h P hP with h5 | ⟨rfl, rfl⟩
    · exact l.len h P h5
    · show ((0 : Nat) : Int) = w.len _
      unfold Nw.len
      rw [if_pos (by omega), List.countP_eq_zero.2 (fun x hx => by
        have := (m.cells.home x hx).2
        simp only [decide_eq_true_eq]
        omega)]
  · exact ((e1.mono fun z _ hz => (hS z).1 (.inl hz)).trans ((e2.mono fun _ _ h => h.elim).trans (e03.mono fun z _ hz => (hS z).1 (.inr (.inr (.inl hz)))))).trans (e4.mono fun z _ hz => (hS z).1 (.inr (.inl hz)))
  · rcases hx with hx | rfl | hx | hx | ⟨i, P, hP, hx⟩
    · rcases hC' x hx with h | h
      · exact .inl ((hS x).1 (.inl h))
      · exact .inr h
    · exact .inl ((hS x).1 (.inr (.inl rfl)))
    · rcases hfr2 x hx with h | h
      · exact .inl ((hS x).1 (.inr (.inr (.inl h))))
      · exact .inr (by omega)
    · exact .inl ((hS x).1 (.inr (.inr (.inr (.inl hx)))))
    · rcases hget i P hP with h5 | ⟨_, rfl⟩
      · exact .inl ((hS x).1 (.inr (.inr (.inr (.inr ⟨i, P, h5, hx⟩)))))
      · have := hnew x hx; exact .inr (by omega)

end Go.Proofs.Yteicchpglnamcaa
