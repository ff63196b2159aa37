/-
  The package cells, more: where a slot is, its entry; out of a heap; heaps that are joined.
-/
import Derived.Test.YteicchpglnamcaaCells
set_option linter.unusedVariables false
set_option linter.unusedSimpArgs false
namespace Go.Proofs.Yteicchpglnamcaa
open Go Go.Vc

theorem CellsAt.names {H H1 : Hp} {c : Nat} {S : Nat → Prop} {st : Int} {cs : List Ce} {len : Nat} {rt rt' : Nat → Nat} {many : Int → Option Int} {fb nb ns mb : Nat} (h : CellsAt H c S st cs len rt many)
    (a1 : H.own c = some [i64 st, .slice (some ⟨fb, 0, none⟩) cs.length cs.length, ptr nb, .map (some mb)]) (a2 : H.own fb = some (flatC cs)) (a4 : IMap H mb (fun i => (many i).map i64))
    (a5 : S c ∧ S fb ∧ S nb ∧ S ns ∧ S mb) (a6 : c ≠ fb ∧ c ≠ nb ∧ c ≠ ns ∧ c ≠ mb) (a7 : fb ≠ nb ∧ fb ≠ ns ∧ fb ≠ mb) (a8 : nb ≠ mb ∧ ns ≠ mb)
    (n : NamesAt H1 nb ns len rt' 65536) (e : Ext (fun x => x = nb ∨ x = ns) H H1) :
    CellsAt H1 c S st cs len rt' many ∧ Ext S H H1 ∧ H1.own c = some [i64 st, .slice (some ⟨fb, 0, none⟩) cs.length cs.length, ptr nb, .map (some mb)] ∧ IMap H1 mb (fun i => (many i).map i64) := by
  obtain ⟨s1, s2, s3, s4, s5⟩ := a5
  have b1 := e.own a1 (by omega)
  have b4 := a4.ext e (by omega)
  exact ⟨⟨⟨fb, nb, ns, mb, b1, e.own a2 (by omega), n, b4, ⟨s1, s2, s3, s4, s5⟩, a6, a7, a8⟩, h.st0, h.st1, h.csl, fun x hx => Nat.lt_of_lt_of_le (h.slt x hx) e.size⟩, e.mono fun x _ hx => hx.elim (fun h => h ▸ s3) (fun h => h ▸ s4), b1, b4⟩

theorem cells_Home_spec {H : Hp} {c : Nat} {S : Nat → Prop} {st : Int} {cs : List Ce} {len : Nat} {rt : Nat → Nat} {many : Int → Option Int} (h : CellsAt H c S st cs len rt many) (hl : ∀ x ∈ cs, x.1 < len) (i : Int) :
    CallH Try.prog n_cells_Cells_Home [ptr c, i64 i] H fun v H' => Post (
      (¬ InC cs i ∧ v = .tuple [i64 0, .bool false].toArray ∧ H = H') ∨
      (InC cs i ∧ ∃ x, cs[i.toNat]? = some x ∧ v = .tuple [i64 (rt x.1.toNat), .bool true].toArray ∧ CellsAt H' c S st cs len rt many ∧ Ext S H H')) := by
  have h' := h
  obtain ⟨⟨fb, nb, ns, mb, a1, a2, a3, a4, a5, a6, a7, a8⟩, h2, h3, h4, h5⟩ := h
  refine c_cells_Cells_Home ⟨rfl, ?_⟩
  simp (disch := (first | omega | (simp only [size_new, size_newm, size_wr, size_wrm] <;> omega) | fail)) only [go_sem, Nat.reduceBEq, Nat.reduceAdd, Nat.reduceMul, Nat.reduceLeDiff, ↓reduceIte, rd_new_lt, own_new_lt, mp_new_lt, rd_newm_lt, own_newm_lt, mp_newm_lt, rd_wr_ne, own_wr_ne, mp_wr_ne, rd_wrm_ne, own_wrm_ne, mp_wrm_ne, rd_new_eq, own_new_eq, mp_newm_eq, s_cells_Cells_Home]
  refine (cells_in_spec h' i).mono ?_
  rintro _ _ ⟨rfl, rfl⟩
  simp (disch := (first | omega | (simp only [size_new, size_newm, size_wr, size_wrm] <;> omega) | fail)) only [go_sem, Nat.reduceBEq, Nat.reduceAdd, Nat.reduceMul, Nat.reduceLeDiff, ↓reduceIte, rd_new_lt, own_new_lt, mp_new_lt, rd_newm_lt, own_newm_lt, mp_newm_lt, rd_wr_ne, own_wr_ne, mp_wr_ne, rd_wrm_ne, own_wrm_ne, mp_wrm_ne, rd_new_eq, own_new_eq, mp_newm_eq]
  refine Both.dec (fun hi => ?_) (fun hi => ?_) <;> simp (disch := (first | omega | (simp only [size_new, size_newm, size_wr, size_wrm] <;> omega) | fail)) only [go_sem, Nat.reduceBEq, Nat.reduceAdd, Nat.reduceMul, Nat.reduceLeDiff, ↓reduceIte, rd_new_lt, own_new_lt, mp_new_lt, rd_newm_lt, own_newm_lt, mp_newm_lt, rd_wr_ne, own_wr_ne, mp_wr_ne, rd_wrm_ne, own_wrm_ne, mp_wrm_ne, rd_new_eq, own_new_eq, mp_newm_eq]
  · obtain ⟨hi0, x, hx, hx0⟩ := id hi
    have hxl := (List.getElem?_eq_some_iff.1 hx).1
    obtain ⟨x1, x2, x3, x4⟩ := cell_at hx
    simp (disch := (first | omega | (simp only [size_new, size_newm, size_wr, size_wrm] <;> omega) | fail)) only [go_sem, Nat.reduceBEq, Nat.reduceAdd, Nat.reduceMul, Nat.reduceLeDiff, ↓reduceIte, rd_new_lt, own_new_lt, mp_new_lt, rd_newm_lt, own_newm_lt, mp_newm_lt, rd_wr_ne, own_wr_ne, mp_wr_ne, rd_wrm_ne, own_wrm_ne, mp_wrm_ne, rd_new_eq, own_new_eq, mp_newm_eq, rd_of_own a1]
    refine ⟨by omega, ?_⟩
    simp (disch := (first | omega | (simp only [size_new, size_newm, size_wr, size_wrm] <;> omega) | fail)) only [go_sem, Nat.reduceBEq, Nat.reduceAdd, Nat.reduceMul, Nat.reduceLeDiff, ↓reduceIte, rd_new_lt, own_new_lt, mp_new_lt, rd_newm_lt, own_newm_lt, mp_newm_lt, rd_wr_ne, own_wr_ne, mp_wr_ne, rd_wrm_ne, own_wrm_ne, mp_wrm_ne, rd_new_eq, own_new_eq, mp_newm_eq, rd_of_own a2, x1, Nat.add_zero, Nat.zero_add]
    refine (names_Root_spec a3 x.1).mono ?_
    rintro _ H1 (⟨hn, _⟩ | ⟨_, rfl, n1, e1⟩)
    · exact absurd ⟨hx0, hl x (List.mem_of_getElem? hx)⟩ hn
    simp (disch := (first | omega | (simp only [size_new, size_newm, size_wr, size_wrm] <;> omega) | fail)) only [go_sem, Nat.reduceBEq, Nat.reduceAdd, Nat.reduceMul, Nat.reduceLeDiff, ↓reduceIte, rd_new_lt, own_new_lt, mp_new_lt, rd_newm_lt, own_newm_lt, mp_newm_lt, rd_wr_ne, own_wr_ne, mp_wr_ne, rd_wrm_ne, own_wrm_ne, mp_wrm_ne, rd_new_eq, own_new_eq, mp_newm_eq]
    obtain ⟨b1, b2, _⟩ := h'.names a1 a2 a4 a5 a6 a7 a8 n1 e1
    exact .inr ⟨hi, x, hx, rfl, b1, b2⟩
  · exact .inl ⟨hi, rfl, rfl⟩

theorem cells_Entry_spec {H : Hp} {c : Nat} {S : Nat → Prop} {st : Int} {cs : List Ce} {len : Nat} {rt : Nat → Nat} {many : Int → Option Int} (h : CellsAt H c S st cs len rt many) (i : Int) :
    CallH Try.prog n_cells_Cells_Entry [ptr c, i64 i] H fun v H' => Post (CellsAt H' c S st cs len rt many ∧ Fresh H H' ∧ (
      (¬ InC cs i ∧ v = .tuple [ent 0 0, .bool false].toArray) ∨
      (InC cs i ∧ ∃ x, cs[i.toNat]? = some x ∧ v = .tuple [ent x.2.1 x.2.2, .bool true].toArray))) := by
  have e0 : Fresh H (H.new 70 [.int .i64 0, .int .u64 0]) := (Ext.refl _ _).new _ _
  have h' := h.ext e0 (fun _ _ h => h)
  refine c_cells_Cells_Entry ⟨rfl, ?_⟩
  simp (disch := (first | omega | (simp only [size_new, size_newm, size_wr, size_wrm] <;> omega) | fail)) only [go_sem, Nat.reduceBEq, Nat.reduceAdd, Nat.reduceMul, Nat.reduceLeDiff, ↓reduceIte, rd_new_lt, own_new_lt, mp_new_lt, rd_newm_lt, own_newm_lt, mp_newm_lt, rd_wr_ne, own_wr_ne, mp_wr_ne, rd_wrm_ne, own_wrm_ne, mp_wrm_ne, rd_new_eq, own_new_eq, mp_newm_eq, s_cells_Cells_Entry]
  refine (cells_in_spec h' i).mono ?_
  rintro _ _ ⟨rfl, rfl⟩
  simp (disch := (first | omega | (simp only [size_new, size_newm, size_wr, size_wrm] <;> omega) | fail)) only [go_sem, Nat.reduceBEq, Nat.reduceAdd, Nat.reduceMul, Nat.reduceLeDiff, ↓reduceIte, rd_new_lt, own_new_lt, mp_new_lt, rd_newm_lt, own_newm_lt, mp_newm_lt, rd_wr_ne, own_wr_ne, mp_wr_ne, rd_wrm_ne, own_wrm_ne, mp_wrm_ne, rd_new_eq, own_new_eq, mp_newm_eq]
  refine Both.dec (fun hi => ?_) (fun hi => ?_) <;> simp (disch := (first | omega | (simp only [size_new, size_newm, size_wr, size_wrm] <;> omega) | fail)) only [go_sem, Nat.reduceBEq, Nat.reduceAdd, Nat.reduceMul, Nat.reduceLeDiff, ↓reduceIte, rd_new_lt, own_new_lt, mp_new_lt, rd_newm_lt, own_newm_lt, mp_newm_lt, rd_wr_ne, own_wr_ne, mp_wr_ne, rd_wrm_ne, own_wrm_ne, mp_wrm_ne, rd_new_eq, own_new_eq, mp_newm_eq]
  · obtain ⟨hi0, x, hx, hx0⟩ := id hi
    have hxl := (List.getElem?_eq_some_iff.1 hx).1
    obtain ⟨x1, x2, x3, x4⟩ := cell_at hx
    have fl := flatC_length cs
    obtain ⟨⟨fb, nb, ns, mb, a1, a2, a3, a4, a5, a6, a7, a8⟩, h2, h3, h4, h5⟩ := id h'
    simp (disch := (first | omega | (simp only [size_new, size_newm, size_wr, size_wrm] <;> omega) | fail)) only [go_sem, Nat.reduceBEq, Nat.reduceAdd, Nat.reduceMul, Nat.reduceLeDiff, ↓reduceIte, rd_new_lt, own_new_lt, mp_new_lt, rd_newm_lt, own_newm_lt, mp_newm_lt, rd_wr_ne, own_wr_ne, mp_wr_ne, rd_wrm_ne, own_wrm_ne, mp_wrm_ne, rd_new_eq, own_new_eq, mp_newm_eq, rd_of_own a1]
    refine ⟨by omega, ?_⟩
    simp (disch := (first | omega | (simp only [size_new, size_newm, size_wr, size_wrm] <;> omega) | fail)) only [go_sem, Nat.reduceBEq, Nat.reduceAdd, Nat.reduceMul, Nat.reduceLeDiff, ↓reduceIte, rd_new_lt, own_new_lt, mp_new_lt, rd_newm_lt, own_newm_lt, mp_newm_lt, rd_wr_ne, own_wr_ne, mp_wr_ne, rd_wrm_ne, own_wrm_ne, mp_wrm_ne, rd_new_eq, own_new_eq, mp_newm_eq, rd_of_own a2]
    refine ⟨by omega, ?_⟩
    simp (disch := (first | omega | (simp only [size_new, size_newm, size_wr, size_wrm] <;> omega) | fail)) only [go_sem, Nat.reduceBEq, Nat.reduceAdd, Nat.reduceMul, Nat.reduceLeDiff, ↓reduceIte, rd_new_lt, own_new_lt, mp_new_lt, rd_newm_lt, own_newm_lt, mp_newm_lt, rd_wr_ne, own_wr_ne, mp_wr_ne, rd_wrm_ne, own_wrm_ne, mp_wrm_ne, rd_new_eq, own_new_eq, mp_newm_eq, x4, rd_wr_same (own_new H 70 [.int .i64 0, .int .u64 0])]
    have e1 : Fresh H ((H.new 70 [.int .i64 0, .int .u64 0]).wr H.size [i64 x.2.1, u64 x.2.2]) := e0.wr (fun h => absurd h (Nat.lt_irrefl _)) _
    exact ⟨h.ext e1 (fun _ _ h => h), e1, .inr ⟨hi, x, hx, rfl⟩⟩
  · simp (disch := (first | omega | (simp only [size_new, size_newm, size_wr, size_wrm] <;> omega) | fail)) only [go_sem, Nat.reduceBEq, Nat.reduceAdd, Nat.reduceMul, Nat.reduceLeDiff, ↓reduceIte, rd_new_lt, own_new_lt, mp_new_lt, rd_newm_lt, own_newm_lt, mp_newm_lt, rd_wr_ne, own_wr_ne, mp_wr_ne, rd_wrm_ne, own_wrm_ne, mp_wrm_ne, rd_new_eq, own_new_eq, mp_newm_eq, rd_wr_same (own_new H 70 [.int .i64 0, .int .u64 0])]
    have e1 : Fresh H ((H.new 70 [.int .i64 0, .int .u64 0]).wr H.size [.int .i64 0, .int .u64 0]) := e0.wr (fun h => absurd h (Nat.lt_irrefl _)) _
    exact ⟨h.ext e1 (fun _ _ h => h), e1, .inl ⟨hi, rfl⟩⟩

/-- The map with one key more, or another value there. -/
def setM (m : Int → Option Int) (i n : Int) : Int → Option Int := fun j => if j = i then some n else m j
def delM (m : Int → Option Int) (i : Int) : Int → Option Int := fun j => if j = i then none else m j
theorem setM_map (m : Int → Option Int) (i n : Int) : setF (fun j => (m j).map i64) i (i64 n) = fun j => (setM m i n j).map i64 := by
  funext j; unfold setF setM; by_cases hj : j = i <;> simp [hj]
theorem delM_map (m : Int → Option Int) (i : Int) : delF (fun j => (m j).map i64) i = fun j => (delM m i j).map i64 := by
  funext j; unfold delF delM; by_cases hj : j = i <;> simp [hj]
theorem many0_tuple (m : Int → Option Int) (g : Int) : okTuple false (Value.int .i64 0) ((m g).map i64) = i64 (many0 m g) := by
  unfold many0; cases m g <;> rfl

theorem cells_Join_spec {H : Hp} {c : Nat} {S : Nat → Prop} {st : Int} {cs : List Ce} {len : Nat} {rt : Nat → Nat} {many : Int → Option Int} (h : CellsAt H c S st cs len rt many) (a b : Int) (hm : ∀ j, 0 ≤ many0 many j ∧ many0 many j ≤ 1000000) :
    CallH Try.prog n_cells_Cells_Join [ptr c, i64 a, i64 b] H fun v H' => Post (
      let ok := (0 < a ∧ a < len ∧ rt a.toNat = a.toNat) ∧ (0 < b ∧ b < len ∧ rt b.toNat = b.toNat) ∧ a ≠ b
      (¬ ok ∧ v = .bool false ∧ H = H') ∨
      (ok ∧ v = .bool true ∧ CellsAt H' c S st cs len (fun i => if rt i = b.toNat then a.toNat else rt i) (if 0 < many0 many b then delM (setM many a (many0 many a + many0 many b)) b else many) ∧ Ext S H H')) := by
  have h' := h
  obtain ⟨⟨fb, nb, ns, mb, a1, a2, a3, a4, a5, a6, a7, a8⟩, h2, h3, h4, h5⟩ := h
  have hma := hm a
  have hmb := hm b
  refine c_cells_Cells_Join ⟨rfl, ?_⟩
  simp (disch := (first | omega | (simp only [size_new, size_newm, size_wr, size_wrm] <;> omega) | fail)) only [go_sem, Nat.reduceBEq, Nat.reduceAdd, Nat.reduceMul, Nat.reduceLeDiff, ↓reduceIte, rd_new_lt, own_new_lt, mp_new_lt, rd_newm_lt, own_newm_lt, mp_newm_lt, rd_wr_ne, own_wr_ne, mp_wr_ne, rd_wrm_ne, own_wrm_ne, mp_wrm_ne, rd_new_eq, own_new_eq, mp_newm_eq, s_cells_Cells_Join, rd_of_own a1]
  refine (names_Join_spec a3 a b).mono ?_
  rintro _ H1 (⟨hn, rfl, rfl⟩ | ⟨hn, rfl, n1, e1⟩)
  · simp (disch := (first | omega | (simp only [size_new, size_newm, size_wr, size_wrm] <;> omega) | fail)) only [go_sem, Nat.reduceBEq, Nat.reduceAdd, Nat.reduceMul, Nat.reduceLeDiff, ↓reduceIte, rd_new_lt, own_new_lt, mp_new_lt, rd_newm_lt, own_newm_lt, mp_newm_lt, rd_wr_ne, own_wr_ne, mp_wr_ne, rd_wrm_ne, own_wrm_ne, mp_wrm_ne, rd_new_eq, own_new_eq, mp_newm_eq]
    exact .inl ⟨hn, rfl, rfl⟩
  · obtain ⟨b1, b2, b3, b4⟩ := h'.names a1 a2 a4 a5 a6 a7 a8 n1 e1
    simp (disch := (first | omega | (simp only [size_new, size_newm, size_wr, size_wrm] <;> omega) | fail)) only [go_sem, Nat.reduceBEq, Nat.reduceAdd, Nat.reduceMul, Nat.reduceLeDiff, ↓reduceIte, rd_new_lt, own_new_lt, mp_new_lt, rd_newm_lt, own_newm_lt, mp_newm_lt, rd_wr_ne, own_wr_ne, mp_wr_ne, rd_wrm_ne, own_wrm_ne, mp_wrm_ne, rd_new_eq, own_new_eq, mp_newm_eq, rd_of_own b3, b4.look, many0_tuple]
    refine Both.dec (fun hb => ?_) (fun hb => ?_) <;> simp (disch := (first | omega | (simp only [size_new, size_newm, size_wr, size_wrm] <;> omega) | fail)) only [go_sem, Nat.reduceBEq, Nat.reduceAdd, Nat.reduceMul, Nat.reduceLeDiff, ↓reduceIte, rd_new_lt, own_new_lt, mp_new_lt, rd_newm_lt, own_newm_lt, mp_newm_lt, rd_wr_ne, own_wr_ne, mp_wr_ne, rd_wrm_ne, own_wrm_ne, mp_wrm_ne, rd_new_eq, own_new_eq, mp_newm_eq]
    · simp (disch := (first | omega | (simp only [size_new, size_newm, size_wr, size_wrm] <;> omega) | fail)) only [go_sem, Nat.reduceBEq, Nat.reduceAdd, Nat.reduceMul, Nat.reduceLeDiff, ↓reduceIte, rd_new_lt, own_new_lt, mp_new_lt, rd_newm_lt, own_newm_lt, mp_newm_lt, rd_wr_ne, own_wr_ne, mp_wr_ne, rd_wrm_ne, own_wrm_ne, mp_wrm_ne, rd_new_eq, own_new_eq, mp_newm_eq, rd_of_own b3, b4.look, many0_tuple]
      rw [wrap64 (by omega) (by omega)]
      refine b4.upd fun H2 m2 e2 => ?_
      have b5 := e2.own b3 a6.2.2.2
      rw [setM_map] at m2
      simp (disch := (first | omega | (simp only [size_new, size_newm, size_wr, size_wrm] <;> omega) | fail)) only [go_sem, Nat.reduceBEq, Nat.reduceAdd, Nat.reduceMul, Nat.reduceLeDiff, ↓reduceIte, rd_new_lt, own_new_lt, mp_new_lt, rd_newm_lt, own_newm_lt, mp_newm_lt, rd_wr_ne, own_wr_ne, mp_wr_ne, rd_wrm_ne, own_wrm_ne, mp_wrm_ne, rd_new_eq, own_new_eq, mp_newm_eq, rd_of_own b5]
      refine m2.del fun H3 m3 e3 => ?_
      rw [delM_map] at m3
      simp (disch := (first | omega | (simp only [size_new, size_newm, size_wr, size_wrm] <;> omega) | fail)) only [go_sem, Nat.reduceBEq, Nat.reduceAdd, Nat.reduceMul, Nat.reduceLeDiff, ↓reduceIte, rd_new_lt, own_new_lt, mp_new_lt, rd_newm_lt, own_newm_lt, mp_newm_lt, rd_wr_ne, own_wr_ne, mp_wr_ne, rd_wrm_ne, own_wrm_ne, mp_wrm_ne, rd_new_eq, own_new_eq, mp_newm_eq]
      have e23 : Ext (fun x => x = mb) H1 H3 := e2.trans e3
      refine .inr ⟨hn, rfl, ?_, b2.trans (e23.mono fun x _ hx => hx ▸ a5.2.2.2.2)⟩
      rw [if_pos hb]
      exact ⟨⟨fb, nb, ns, mb, e23.own b3 a6.2.2.2, e23.own (e1.own a2 (by omega)) a7.2.2, n1.ext e23 a8.1 a8.2, m3, a5, a6, a7, a8⟩, h2, h3, h4, fun x hx => Nat.lt_of_lt_of_le (h5 x hx) (Nat.le_trans e1.size e23.size)⟩
    · refine .inr ⟨hn, rfl, ?_, b2⟩
      rw [if_neg hb]
      exact b1

theorem cells_Drop_spec {H : Hp} {c : Nat} {S : Nat → Prop} {st : Int} {cs : List Ce} {len : Nat} {rt : Nat → Nat} {many : Int → Option Int} (h : CellsAt H c S st cs len rt many) (hl : ∀ x ∈ cs, x.1 < len) (i : Int) (hm : ∀ j, 0 ≤ many0 many j ∧ many0 many j ≤ 1000000) :
    CallH Try.prog n_cells_Cells_Drop [ptr c, i64 i] H fun v H' => Post (
      (¬ InC cs i ∧ v = .bool false ∧ H = H') ∨
      (InC cs i ∧ v = .bool true ∧ ∃ x, cs[i.toNat]? = some x ∧
        CellsAt H' c S st (cs.set i.toNat (0, 0, 0)) len rt (if many0 many (rt x.1.toNat) - 1 = 0 then delM (setM many (rt x.1.toNat) (many0 many (rt x.1.toNat) - 1)) (rt x.1.toNat) else setM many (rt x.1.toNat) (many0 many (rt x.1.toNat) - 1)) ∧ Ext S H H')) := by
  refine c_cells_Cells_Drop ⟨rfl, ?_⟩
  simp (disch := (first | omega | (simp only [size_new, size_newm, size_wr, size_wrm] <;> omega) | fail)) only [go_sem, Nat.reduceBEq, Nat.reduceAdd, Nat.reduceMul, Nat.reduceLeDiff, ↓reduceIte, rd_new_lt, own_new_lt, mp_new_lt, rd_newm_lt, own_newm_lt, mp_newm_lt, rd_wr_ne, own_wr_ne, mp_wr_ne, rd_wrm_ne, own_wrm_ne, mp_wrm_ne, rd_new_eq, own_new_eq, mp_newm_eq, s_cells_Cells_Drop]
  refine (cells_Home_spec h hl i).mono ?_
  rintro _ H1 (⟨hi, rfl, rfl⟩ | ⟨hi, x, hx, rfl, b1, b2⟩)
  · simp (disch := (first | omega | (simp only [size_new, size_newm, size_wr, size_wrm] <;> omega) | fail)) only [go_sem, Nat.reduceBEq, Nat.reduceAdd, Nat.reduceMul, Nat.reduceLeDiff, ↓reduceIte, rd_new_lt, own_new_lt, mp_new_lt, rd_newm_lt, own_newm_lt, mp_newm_lt, rd_wr_ne, own_wr_ne, mp_wr_ne, rd_wrm_ne, own_wrm_ne, mp_wrm_ne, rd_new_eq, own_new_eq, mp_newm_eq]
    exact .inl ⟨hi, rfl, rfl⟩
  · have hxl := (List.getElem?_eq_some_iff.1 hx).1
    have hi0 := hi.1
    have fl := flatC_length cs
    obtain ⟨⟨fb, nb, ns, mb, a1, a2, a3, a4, a5, a6, a7, a8⟩, h2, h3, h4, h5⟩ := b1
    have hmg := hm (rt x.1.toNat)
    simp (disch := (first | omega | (simp only [size_new, size_newm, size_wr, size_wrm] <;> omega) | fail)) only [go_sem, Nat.reduceBEq, Nat.reduceAdd, Nat.reduceMul, Nat.reduceLeDiff, ↓reduceIte, rd_new_lt, own_new_lt, mp_new_lt, rd_newm_lt, own_newm_lt, mp_newm_lt, rd_wr_ne, own_wr_ne, mp_wr_ne, rd_wrm_ne, own_wrm_ne, mp_wrm_ne, rd_new_eq, own_new_eq, mp_newm_eq, rd_of_own a1]
    refine ⟨by omega, ?_⟩
    simp (disch := (first | omega | (simp only [size_new, size_newm, size_wr, size_wrm] <;> omega) | fail)) only [go_sem, Nat.reduceBEq, Nat.reduceAdd, Nat.reduceMul, Nat.reduceLeDiff, ↓reduceIte, rd_new_lt, own_new_lt, mp_new_lt, rd_newm_lt, own_newm_lt, mp_newm_lt, rd_wr_ne, own_wr_ne, mp_wr_ne, rd_wrm_ne, own_wrm_ne, mp_wrm_ne, rd_new_eq, own_new_eq, mp_newm_eq, a2]
    refine ⟨by omega, ?_⟩
    rw [show splice (flatC cs) (i.toNat * 3) (vcells (Value.agg #[Value.int .i64 0, Value.int .i64 0, Value.int .u64 0])) = flatC (cs.set i.toNat (0, 0, 0)) from flatC_set cs i.toNat (0, 0, 0) (by omega)]
    have e2 : Ext (fun x => x = fb) H1 (H1.wr fb (flatC (cs.set i.toNat (0, 0, 0)))) := (Ext.refl (fun x => x = fb) _).wr (fun _ => rfl) _
    have c1 := e2.own a1 a6.1
    have c2 : (H1.wr fb (flatC (cs.set i.toNat (0, 0, 0)))).own fb = _ := own_wr_same a2
    have c3 := a3.ext e2 (Ne.symm a7.1) (Ne.symm a7.2.1)
    have c4 := a4.ext e2 (Ne.symm a7.2.2)
    simp (disch := (first | omega | (simp only [size_new, size_newm, size_wr, size_wrm] <;> omega) | fail)) only [go_sem, Nat.reduceBEq, Nat.reduceAdd, Nat.reduceMul, Nat.reduceLeDiff, ↓reduceIte, rd_new_lt, own_new_lt, mp_new_lt, rd_newm_lt, own_newm_lt, mp_newm_lt, rd_wr_ne, own_wr_ne, mp_wr_ne, rd_wrm_ne, own_wrm_ne, mp_wrm_ne, rd_new_eq, own_new_eq, mp_newm_eq, rd_of_own c1, c4.look, many0_tuple]
    rw [wrap64 (by omega) (by omega)]
    refine c4.upd fun H2 m2 e3 => ?_
    rw [setM_map] at m2
    have d1 := e3.own c1 a6.2.2.2
    have hs : many0 (setM many (rt x.1.toNat) (many0 many (rt x.1.toNat) - 1)) (rt x.1.toNat) = many0 many (rt x.1.toNat) - 1 := by simp [many0, setM]
    simp (disch := (first | omega | (simp only [size_new, size_newm, size_wr, size_wrm] <;> omega) | fail)) only [go_sem, Nat.reduceBEq, Nat.reduceAdd, Nat.reduceMul, Nat.reduceLeDiff, ↓reduceIte, rd_new_lt, own_new_lt, mp_new_lt, rd_newm_lt, own_newm_lt, mp_newm_lt, rd_wr_ne, own_wr_ne, mp_wr_ne, rd_wrm_ne, own_wrm_ne, mp_wrm_ne, rd_new_eq, own_new_eq, mp_newm_eq, rd_of_own d1, m2.look, many0_tuple, hs]
    have e23 : Ext S H1 H2 := (e2.mono fun x _ hx => hx ▸ a5.2.1).trans (e3.mono fun x _ hx => hx ▸ a5.2.2.2.2)
    refine Both.dec (fun h0 => ?_) (fun h0 => ?_) <;> simp (disch := (first | omega | (simp only [size_new, size_newm, size_wr, size_wrm] <;> omega) | fail)) only [go_sem, Nat.reduceBEq, Nat.reduceAdd, Nat.reduceMul, Nat.reduceLeDiff, ↓reduceIte, rd_new_lt, own_new_lt, mp_new_lt, rd_newm_lt, own_newm_lt, mp_newm_lt, rd_wr_ne, own_wr_ne, mp_wr_ne, rd_wrm_ne, own_wrm_ne, mp_wrm_ne, rd_new_eq, own_new_eq, mp_newm_eq, rd_of_own d1]
    · refine m2.del fun H3 m3 e4 => ?_
      rw [delM_map] at m3
      simp (disch := (first | omega | (simp only [size_new, size_newm, size_wr, size_wrm] <;> omega) | fail)) only [go_sem, Nat.reduceBEq, Nat.reduceAdd, Nat.reduceMul, Nat.reduceLeDiff, ↓reduceIte, rd_new_lt, own_new_lt, mp_new_lt, rd_newm_lt, own_newm_lt, mp_newm_lt, rd_wr_ne, own_wr_ne, mp_wr_ne, rd_wrm_ne, own_wrm_ne, mp_wrm_ne, rd_new_eq, own_new_eq, mp_newm_eq]
      refine .inr ⟨hi, rfl, x, hx, ?_, (b2.trans e23).trans (e4.mono fun x _ hx => hx ▸ a5.2.2.2.2)⟩
      rw [if_pos h0]
      exact ⟨⟨fb, nb, ns, mb, by rw [List.length_set]; exact e4.own d1 a6.2.2.2, (e4.own (e3.own c2 a7.2.2) a7.2.2), (c3.ext e3 a8.1 a8.2).ext e4 a8.1 a8.2, m3, a5, a6, a7, a8⟩, h2, h3, by rw [List.length_set]; exact h4, fun x hx => Nat.lt_of_lt_of_le (h5 x hx) (Nat.le_trans e23.size e4.size)⟩
    · refine .inr ⟨hi, rfl, x, hx, ?_, b2.trans e23⟩
      rw [if_neg h0]
      exact ⟨⟨fb, nb, ns, mb, by rw [List.length_set]; exact d1, e3.own c2 a7.2.2, c3.ext e3 a8.1 a8.2, m2, a5, a6, a7, a8⟩, h2, h3, by rw [List.length_set]; exact h4, fun x hx => Nat.lt_of_lt_of_le (h5 x hx) e23.size⟩

theorem flatC_set2 (cs : List Ce) (i : Nat) (x : Ce) (k s : Int) (hx : cs[i]? = some x) : splice (flatC cs) (i * 3 + 1) [i64 k, u64 s] = flatC (cs.set i (x.1, k, s)) := by
  simp only [splice]
  induction cs generalizing i with
  | nil => simp at hx
  | cons a r ih =>
    have e : flatC (a :: r) = i64 a.1 :: i64 a.2.1 :: u64 a.2.2 :: flatC r := rfl
    cases i with
    | zero =>
      simp at hx
      subst hx
      rfl
    | succ i =>
      have e2 : flatC ((a :: r).set (i + 1) (x.1, k, s)) = i64 a.1 :: i64 a.2.1 :: u64 a.2.2 :: flatC (r.set i (x.1, k, s)) := rfl
      rw [e, e2, show (i + 1) * 3 + 1 = i * 3 + 1 + 1 + 1 + 1 by omega]
      simp only [List.set_cons_succ]
      rw [ih i (by simpa using hx)]

theorem cells_Lower_spec {H : Hp} {c : Nat} {S : Nat → Prop} {st : Int} {cs : List Ce} {len : Nat} {rt : Nat → Nat} {many : Int → Option Int} (h : CellsAt H c S st cs len rt many) (i k s : Int) :
    CallH Try.prog n_cells_Cells_Lower [ptr c, i64 i, ent k s] H fun v H' => Post (
      (¬ (InC cs i ∧ ∀ x, cs[i.toNat]? = some x → ¬ lessE x.2.1 x.2.2 k s) ∧ v = .bool false ∧ CellsAt H' c S st cs len rt many ∧ Fresh H H') ∨
      (InC cs i ∧ v = .bool true ∧ ∃ x, cs[i.toNat]? = some x ∧ ¬ lessE x.2.1 x.2.2 k s ∧ CellsAt H' c S st (cs.set i.toNat (x.1, k, s)) len rt many ∧ Ext S H H')) := by
  have e0 : Fresh H (H.new 70 [i64 k, u64 s]) := (Ext.refl _ _).new _ _
  have h' := h.ext e0 (fun _ _ h => h)
  refine c_cells_Cells_Lower ⟨rfl, ?_⟩
  simp (disch := (first | omega | (simp only [size_new, size_newm, size_wr, size_wrm] <;> omega) | fail)) only [go_sem, Nat.reduceBEq, Nat.reduceAdd, Nat.reduceMul, Nat.reduceLeDiff, ↓reduceIte, rd_new_lt, own_new_lt, mp_new_lt, rd_newm_lt, own_newm_lt, mp_newm_lt, rd_wr_ne, own_wr_ne, mp_wr_ne, rd_wrm_ne, own_wrm_ne, mp_wrm_ne, rd_new_eq, own_new_eq, mp_newm_eq, s_cells_Cells_Lower, ent]
  refine (cells_in_spec h' i).mono ?_
  rintro _ _ ⟨rfl, rfl⟩
  simp (disch := (first | omega | (simp only [size_new, size_newm, size_wr, size_wrm] <;> omega) | fail)) only [go_sem, Nat.reduceBEq, Nat.reduceAdd, Nat.reduceMul, Nat.reduceLeDiff, ↓reduceIte, rd_new_lt, own_new_lt, mp_new_lt, rd_newm_lt, own_newm_lt, mp_newm_lt, rd_wr_ne, own_wr_ne, mp_wr_ne, rd_wrm_ne, own_wrm_ne, mp_wrm_ne, rd_new_eq, own_new_eq, mp_newm_eq]
  refine Both.dec (fun hi => ?_) (fun hi => ?_) <;> simp (disch := (first | omega | (simp only [size_new, size_newm, size_wr, size_wrm] <;> omega) | fail)) only [go_sem, Nat.reduceBEq, Nat.reduceAdd, Nat.reduceMul, Nat.reduceLeDiff, ↓reduceIte, rd_new_lt, own_new_lt, mp_new_lt, rd_newm_lt, own_newm_lt, mp_newm_lt, rd_wr_ne, own_wr_ne, mp_wr_ne, rd_wrm_ne, own_wrm_ne, mp_wrm_ne, rd_new_eq, own_new_eq, mp_newm_eq]
  · obtain ⟨hi0, x, hx, hx0⟩ := id hi
    have hxl := (List.getElem?_eq_some_iff.1 hx).1
    obtain ⟨x1, x2, x3, x4⟩ := cell_at hx
    have fl := flatC_length cs
    obtain ⟨⟨fb, nb, ns, mb, a1, a2, a3, a4, a5, a6, a7, a8⟩, h2, h3, h4, h5⟩ := id h'
    simp (disch := (first | omega | (simp only [size_new, size_newm, size_wr, size_wrm] <;> omega) | fail)) only [go_sem, Nat.reduceBEq, Nat.reduceAdd, Nat.reduceMul, Nat.reduceLeDiff, ↓reduceIte, rd_new_lt, own_new_lt, mp_new_lt, rd_newm_lt, own_newm_lt, mp_newm_lt, rd_wr_ne, own_wr_ne, mp_wr_ne, rd_wrm_ne, own_wrm_ne, mp_wrm_ne, rd_new_eq, own_new_eq, mp_newm_eq, rd_of_own a1]
    refine ⟨by omega, ?_⟩
    simp (disch := (first | omega | (simp only [size_new, size_newm, size_wr, size_wrm] <;> omega) | fail)) only [go_sem, Nat.reduceBEq, Nat.reduceAdd, Nat.reduceMul, Nat.reduceLeDiff, ↓reduceIte, rd_new_lt, own_new_lt, mp_new_lt, rd_newm_lt, own_newm_lt, mp_newm_lt, rd_wr_ne, own_wr_ne, mp_wr_ne, rd_wrm_ne, own_wrm_ne, mp_wrm_ne, rd_new_eq, own_new_eq, mp_newm_eq, rd_of_own a2]
    refine ⟨by omega, ?_⟩
    simp (disch := (first | omega | (simp only [size_new, size_newm, size_wr, size_wrm] <;> omega) | fail)) only [go_sem, Nat.reduceBEq, Nat.reduceAdd, Nat.reduceMul, Nat.reduceLeDiff, ↓reduceIte, rd_new_lt, own_new_lt, mp_new_lt, rd_newm_lt, own_newm_lt, mp_newm_lt, rd_wr_ne, own_wr_ne, mp_wr_ne, rd_wrm_ne, own_wrm_ne, mp_wrm_ne, rd_new_eq, own_new_eq, mp_newm_eq, x4]
    refine (entry_Less_spec x.2.1 x.2.2 k s _).mono ?_
    rintro _ H2 ⟨rfl, hf⟩
    have g1 := hf.own a1 (fun h => h)
    have g2 := hf.own a2 (fun h => h)
    have hr := hf.own (own_new H 70 [i64 k, u64 s]) (fun h => h)
    simp (disch := (first | omega | (simp only [size_new, size_newm, size_wr, size_wrm] <;> omega) | fail)) only [go_sem, Nat.reduceBEq, Nat.reduceAdd, Nat.reduceMul, Nat.reduceLeDiff, ↓reduceIte, rd_new_lt, own_new_lt, mp_new_lt, rd_newm_lt, own_newm_lt, mp_newm_lt, rd_wr_ne, own_wr_ne, mp_wr_ne, rd_wrm_ne, own_wrm_ne, mp_wrm_ne, rd_new_eq, own_new_eq, mp_newm_eq]
    refine Both.dec (fun hless => ?_) (fun hless => ?_) <;> simp (disch := (first | omega | (simp only [size_new, size_newm, size_wr, size_wrm] <;> omega) | fail)) only [go_sem, Nat.reduceBEq, Nat.reduceAdd, Nat.reduceMul, Nat.reduceLeDiff, ↓reduceIte, rd_new_lt, own_new_lt, mp_new_lt, rd_newm_lt, own_newm_lt, mp_newm_lt, rd_wr_ne, own_wr_ne, mp_wr_ne, rd_wrm_ne, own_wrm_ne, mp_wrm_ne, rd_new_eq, own_new_eq, mp_newm_eq]
    · exact .inl ⟨fun hc => hc.2 x hx hless, rfl, h'.ext hf (fun _ _ h => h), e0.trans hf⟩
    · simp (disch := (first | omega | (simp only [size_new, size_newm, size_wr, size_wrm] <;> omega) | fail)) only [go_sem, Nat.reduceBEq, Nat.reduceAdd, Nat.reduceMul, Nat.reduceLeDiff, ↓reduceIte, rd_new_lt, own_new_lt, mp_new_lt, rd_newm_lt, own_newm_lt, mp_newm_lt, rd_wr_ne, own_wr_ne, mp_wr_ne, rd_wrm_ne, own_wrm_ne, mp_wrm_ne, rd_new_eq, own_new_eq, mp_newm_eq, rd_of_own g1, rd_of_own hr]
      refine ⟨by omega, ?_⟩
      simp (disch := (first | omega | (simp only [size_new, size_newm, size_wr, size_wrm] <;> omega) | fail)) only [go_sem, Nat.reduceBEq, Nat.reduceAdd, Nat.reduceMul, Nat.reduceLeDiff, ↓reduceIte, rd_new_lt, own_new_lt, mp_new_lt, rd_newm_lt, own_newm_lt, mp_newm_lt, rd_wr_ne, own_wr_ne, mp_wr_ne, rd_wrm_ne, own_wrm_ne, mp_wrm_ne, rd_new_eq, own_new_eq, mp_newm_eq, rd_of_own g1, rd_of_own hr, g2]
      refine ⟨by omega, ?_⟩
      simp (disch := (first | omega | (simp only [size_new, size_newm, size_wr, size_wrm] <;> omega) | fail)) only [go_sem, Nat.reduceBEq, Nat.reduceAdd, Nat.reduceMul, Nat.reduceLeDiff, ↓reduceIte, rd_new_lt, own_new_lt, mp_new_lt, rd_newm_lt, own_newm_lt, mp_newm_lt, rd_wr_ne, own_wr_ne, mp_wr_ne, rd_wrm_ne, own_wrm_ne, mp_wrm_ne, rd_new_eq, own_new_eq, mp_newm_eq]
      have hsp : ((flatC cs).set (i.toNat * 3 + 1) (i64 k)).set (i.toNat * 3 + 1 + 1) (u64 s) = flatC (cs.set i.toNat (x.1, k, s)) := flatC_set2 cs i.toNat x k s hx
      rw [hsp]
      have e3 : Ext (fun x => x = fb) H2 (H2.wr fb (flatC (cs.set i.toNat (x.1, k, s)))) := (Ext.refl (fun x => x = fb) _).wr (fun _ => rfl) _
      refine .inr ⟨hi, rfl, x, hx, hless, ⟨⟨fb, nb, ns, mb, by rw [List.length_set]; exact e3.own g1 a6.1, own_wr_same g2, (a3.ext hf (fun h => h) (fun h => h)).ext e3 (Ne.symm a7.1) (Ne.symm a7.2.1), (a4.ext hf (fun h => h)).ext e3 (Ne.symm a7.2.2), a5, a6, a7, a8⟩, h2, h3, by rw [List.length_set]; exact h4, fun x hx => Nat.lt_of_lt_of_le (h5 x hx) (Nat.le_trans hf.size e3.size)⟩,
        ((e0.trans hf).mono fun _ _ h => h.elim).trans (e3.mono fun x _ hx => hx ▸ a5.2.1)⟩
  · exact .inl ⟨fun hc => hi hc.1, rfl, h', e0⟩

end Go.Proofs.Yteicchpglnamcaa
