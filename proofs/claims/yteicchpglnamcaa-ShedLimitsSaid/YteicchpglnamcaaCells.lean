/-
  The package cells: slots in heaps, with their entries: what each function does.
-/
import Derived.Test.YteicchpglnamcaaNames
import Derived.Test.YteicchpglnamcaaEntry
set_option linter.unusedVariables false
set_option linter.unusedSimpArgs false
namespace Go.Proofs.Yteicchpglnamcaa
open Go Go.Vc

/-- Of each slot: its heap, and its entry. -/
abbrev Ce := Int × Int × Int
def flatC (cs : List Ce) : List Value := cs.flatMap fun c => [i64 c.1, i64 c.2.1, u64 c.2.2]

theorem flatC_length (cs : List Ce) : (flatC cs).length = cs.length * 3 := by
  induction cs with
  | nil => rfl
  | cons c r ih => simp only [flatC, List.flatMap_cons, List.length_append, List.length_cons, List.length_nil] at *; omega

theorem flatC_rep (n : Nat) : flatC (List.replicate n (0, 0, 0)) = padZ [.int .i64 0, .int .i64 0, .int .u64 0] n := by
  simp [flatC, padZ, List.flatMap_def, List.map_replicate]

theorem NamesAt.lt2 {H : Hp} {b s len : Nat} {rt : Nat → Nat} {most : Int} (h : NamesAt H b s len rt most) : s < H.size := by
  obtain ⟨⟨sv, into, cnt, a1, a2, a3⟩, _⟩ := h
  exact a2.lt

/-- Cells at block c, all of whose memory is S: its own block, the slots' block, the names' two blocks, the map. -/
structure CellsAt (H : Hp) (c : Nat) (S : Nat → Prop) (st : Int) (cs : List Ce) (len : Nat) (rt : Nat → Nat) (many : Int → Option Int) : Prop where
  rep : ∃ fb nb ns mb, H.own c = some [i64 st, .slice (some ⟨fb, 0, none⟩) cs.length cs.length, ptr nb, .map (some mb)] ∧ H.own fb = some (flatC cs) ∧ NamesAt H nb ns len rt 65536 ∧ IMap H mb (fun i => (many i).map i64) ∧
    (S c ∧ S fb ∧ S nb ∧ S ns ∧ S mb) ∧ (c ≠ fb ∧ c ≠ nb ∧ c ≠ ns ∧ c ≠ mb) ∧ (fb ≠ nb ∧ fb ≠ ns ∧ fb ≠ mb) ∧ (nb ≠ mb ∧ ns ≠ mb)
  st0 : 0 ≤ st
  st1 : st ≤ 4611686018427387904
  csl : cs.length ≤ 65536
  slt : ∀ x, S x → x < H.size

theorem CellsAt.ext {H H' : Hp} {c : Nat} {S T : Nat → Prop} {st : Int} {cs : List Ce} {len : Nat} {rt : Nat → Nat} {many : Int → Option Int} (h : CellsAt H c S st cs len rt many)
    (e : Ext T H H') (hd : ∀ x, S x → ¬ T x) : CellsAt H' c S st cs len rt many := by
  obtain ⟨⟨fb, nb, ns, mb, a1, a2, a3, a4, ⟨s1, s2, s3, s4, s5⟩, a6, a7⟩, h2, h3, h4, h5⟩ := h
  exact ⟨⟨fb, nb, ns, mb, e.own a1 (hd _ s1), e.own a2 (hd _ s2), a3.ext e (hd _ s3) (hd _ s4), a4.ext e (hd _ s5), ⟨s1, s2, s3, s4, s5⟩, a6, a7⟩, h2, h3, h4, fun x hx => Nat.lt_of_lt_of_le (h5 x hx) e.size⟩

theorem cells_New_spec (cap : Int) (H : Hp) : CallH Try.prog n_cells_New [i64 cap] H fun v H' => Post (
    Fresh H H' ∧ ((¬ (0 ≤ cap ∧ cap ≤ 65536) ∧ v = .tuple [.pointer none, i64 31].toArray) ∨
      (0 ≤ cap ∧ cap ≤ 65536) ∧ ∃ c S, v = .tuple [ptr c, i64 0].toArray ∧ CellsAt H' c S 0 (List.replicate cap.toNat (0, 0, 0)) 1 id (fun _ => none) ∧ (∀ x, S x → H.size ≤ x))) := by
  refine c_cells_New ⟨rfl, ?_⟩
  simp (disch := (first | omega | (simp only [size_new, size_newm, size_wr, size_wrm] <;> omega) | fail)) only [go_sem, Nat.reduceBEq, Nat.reduceAdd, Nat.reduceMul, Nat.reduceLeDiff, ↓reduceIte, rd_new_lt, own_new_lt, mp_new_lt, rd_newm_lt, own_newm_lt, mp_newm_lt, rd_wr_ne, own_wr_ne, mp_wr_ne, rd_wrm_ne, own_wrm_ne, mp_wrm_ne, rd_new_eq, own_new_eq, mp_newm_eq, s_cells_New]
  refine Both.dec (fun h => ?_) (fun h => ?_) <;> simp (disch := (first | omega | (simp only [size_new, size_newm, size_wr, size_wrm] <;> omega) | fail)) only [go_sem, Nat.reduceBEq, Nat.reduceAdd, Nat.reduceMul, Nat.reduceLeDiff, ↓reduceIte, rd_new_lt, own_new_lt, mp_new_lt, rd_newm_lt, own_newm_lt, mp_newm_lt, rd_wr_ne, own_wr_ne, mp_wr_ne, rd_wrm_ne, own_wrm_ne, mp_wrm_ne, rd_new_eq, own_new_eq, mp_newm_eq]
  · exact ⟨Ext.refl _ _, .inl ⟨by omega, rfl⟩⟩
  · refine Both.dec (fun h2 => ?_) (fun h2 => ?_) <;> simp (disch := (first | omega | (simp only [size_new, size_newm, size_wr, size_wrm] <;> omega) | fail)) only [go_sem, Nat.reduceBEq, Nat.reduceAdd, Nat.reduceMul, Nat.reduceLeDiff, ↓reduceIte, rd_new_lt, own_new_lt, mp_new_lt, rd_newm_lt, own_newm_lt, mp_newm_lt, rd_wr_ne, own_wr_ne, mp_wr_ne, rd_wrm_ne, own_wrm_ne, mp_wrm_ne, rd_new_eq, own_new_eq, mp_newm_eq]
    · exact ⟨Ext.refl _ _, .inl ⟨by omega, rfl⟩⟩
    · refine (names_New_spec 65536 H).mono ?_
      rintro _ H1 ⟨hf, ⟨hc, _⟩ | ⟨_, nb, ns, rfl, hn, b1, b2, b3, b4⟩⟩
      · omega
      simp (disch := (first | omega | (simp only [size_new, size_newm, size_wr, size_wrm] <;> omega) | fail)) only [go_sem, Nat.reduceBEq, Nat.reduceAdd, Nat.reduceMul, Nat.reduceLeDiff, ↓reduceIte, rd_new_lt, own_new_lt, mp_new_lt, rd_newm_lt, own_newm_lt, mp_newm_lt, rd_wr_ne, own_wr_ne, mp_wr_ne, rd_wrm_ne, own_wrm_ne, mp_wrm_ne, rd_new_eq, own_new_eq, mp_newm_eq]
      refine ⟨by omega, ?_⟩
      simp (disch := (first | omega | (simp only [size_new, size_newm, size_wr, size_wrm] <;> omega) | fail)) only [go_sem, Nat.reduceBEq, Nat.reduceAdd, Nat.reduceMul, Nat.reduceLeDiff, ↓reduceIte, rd_new_lt, own_new_lt, mp_new_lt, rd_newm_lt, own_newm_lt, mp_newm_lt, rd_wr_ne, own_wr_ne, mp_wr_ne, rd_wrm_ne, own_wrm_ne, mp_wrm_ne, rd_new_eq, own_new_eq, mp_newm_eq]
      have hs : (H1.new 121 (padZ [.int .i64 0, .int .i64 0, .int .u64 0] cap.toNat)).own H1.size = some (flatC (List.replicate cap.toNat (0, 0, 0))) := by
        rw [flatC_rep]
        exact own_new _ _ _
      have he : Ext (fun _ => False) (H1.new 121 (padZ [.int .i64 0, .int .i64 0, .int .u64 0] cap.toNat)) _ :=
        ((Ext.refl _ _).newm).new 39 [.int .i64 0, .slice (some ⟨H1.size, 0, none⟩) cap.toNat cap.toNat, .pointer (some ⟨nb, 0, none⟩), .map (some (H1.size + 1))]
      have hm : IMap (H1.new 121 (padZ [.int .i64 0, .int .i64 0, .int .u64 0] cap.toNat)).newm (H1.size + 1) (fun _ => none) := by
        have := IMap.new (H1.new 121 (padZ [.int .i64 0, .int .i64 0, .int .u64 0] cap.toNat))
        rwa [size_new] at this
      have hsz := hf.size
      have hl : (List.replicate cap.toNat ((0, 0, 0) : Ce)).length = cap.toNat := List.length_replicate
      refine ⟨(hf.trans ((Ext.refl _ _).new 121 _)).trans he, .inr ⟨by omega, H1.size + 1 + 1, fun x => H.size ≤ x ∧ x < H1.size + 1 + 1 + 1, rfl, ⟨⟨H1.size, nb, ns, H1.size + 1, by rw [hl]; exact own_new_eq (by simp only [size_new, size_newm]), he.own hs (fun h => h),
        (hn.ext ((Ext.refl (fun _ => False) _).new 121 _) (fun h => h) (fun h => h)).ext he (fun h => h) (fun h => h), hm.ext ((Ext.refl (fun _ => False) _).new _ _) (fun h => h), ?_, ?_, ?_, ?_⟩, by omega, by omega, by omega, ?_⟩, fun x h => h.1⟩⟩
      · exact ⟨by omega, by omega, by omega, by omega, by omega⟩
      · exact ⟨by omega, by omega, by omega, by omega⟩
      · exact ⟨by omega, by omega, by omega⟩
      · exact ⟨by omega, by omega⟩
      · intro x hx
        simp only [size_new, size_newm]
        exact hx.2

theorem cells_Capacity_spec {H : Hp} {c : Nat} {S : Nat → Prop} {st : Int} {cs : List Ce} {len : Nat} {rt : Nat → Nat} {many : Int → Option Int} (h : CellsAt H c S st cs len rt many) :
    CallH Try.prog n_cells_Cells_Capacity [ptr c] H fun v H' => Post (v = i64 cs.length ∧ H = H') := by
  obtain ⟨⟨fb, nb, ns, mb, a1, a2, a3, a4, a5, a6, a7⟩, h2, h3, h4, h5⟩ := h
  refine c_cells_Cells_Capacity ⟨rfl, ?_⟩
  simp (disch := (first | omega | (simp only [size_new, size_newm, size_wr, size_wrm] <;> omega) | fail)) only [go_sem, Nat.reduceBEq, Nat.reduceAdd, Nat.reduceMul, Nat.reduceLeDiff, ↓reduceIte, rd_new_lt, own_new_lt, mp_new_lt, rd_newm_lt, own_newm_lt, mp_newm_lt, rd_wr_ne, own_wr_ne, mp_wr_ne, rd_wrm_ne, own_wrm_ne, mp_wrm_ne, rd_new_eq, own_new_eq, mp_newm_eq, s_cells_Cells_Capacity, rd_of_own a1]
  exact ⟨rfl, rfl⟩

theorem cells_Has_spec {H : Hp} {c : Nat} {S : Nat → Prop} {st : Int} {cs : List Ce} {len : Nat} {rt : Nat → Nat} {many : Int → Option Int} (h : CellsAt H c S st cs len rt many) (i : Int) :
    CallH Try.prog n_cells_Cells_Has [ptr c, i64 i] H fun v H' => Post (v = .bool (decide (0 < i ∧ i < len ∧ rt i.toNat = i.toNat)) ∧ H = H') := by
  obtain ⟨⟨fb, nb, ns, mb, a1, a2, a3, a4, a5, a6, a7⟩, h2, h3, h4, h5⟩ := h
  refine c_cells_Cells_Has ⟨rfl, ?_⟩
  simp (disch := (first | omega | (simp only [size_new, size_newm, size_wr, size_wrm] <;> omega) | fail)) only [go_sem, Nat.reduceBEq, Nat.reduceAdd, Nat.reduceMul, Nat.reduceLeDiff, ↓reduceIte, rd_new_lt, own_new_lt, mp_new_lt, rd_newm_lt, own_newm_lt, mp_newm_lt, rd_wr_ne, own_wr_ne, mp_wr_ne, rd_wrm_ne, own_wrm_ne, mp_wrm_ne, rd_new_eq, own_new_eq, mp_newm_eq, s_cells_Cells_Has, rd_of_own a1]
  refine (names_Has_spec a3 i).mono ?_
  rintro _ _ ⟨rfl, rfl⟩
  simp (disch := (first | omega | (simp only [size_new, size_newm, size_wr, size_wrm] <;> omega) | fail)) only [go_sem, Nat.reduceBEq, Nat.reduceAdd, Nat.reduceMul, Nat.reduceLeDiff, ↓reduceIte, rd_new_lt, own_new_lt, mp_new_lt, rd_newm_lt, own_newm_lt, mp_newm_lt, rd_wr_ne, own_wr_ne, mp_wr_ne, rd_wrm_ne, own_wrm_ne, mp_wrm_ne, rd_new_eq, own_new_eq, mp_newm_eq]
  exact ⟨rfl, rfl⟩

/-- How many: of what the map says. -/
def many0 (many : Int → Option Int) (i : Int) : Int := (many i).getD 0

theorem cells_Len_spec {H : Hp} {c : Nat} {S : Nat → Prop} {st : Int} {cs : List Ce} {len : Nat} {rt : Nat → Nat} {many : Int → Option Int} (h : CellsAt H c S st cs len rt many) (i : Int) :
    CallH Try.prog n_cells_Cells_Len [ptr c, i64 i] H fun v H' => Post (v = i64 (many0 many i) ∧ H = H') := by
  obtain ⟨⟨fb, nb, ns, mb, a1, a2, a3, a4, a5, a6, a7⟩, h2, h3, h4, h5⟩ := h
  refine c_cells_Cells_Len ⟨rfl, ?_⟩
  simp (disch := (first | omega | (simp only [size_new, size_newm, size_wr, size_wrm] <;> omega) | fail)) only [go_sem, Nat.reduceBEq, Nat.reduceAdd, Nat.reduceMul, Nat.reduceLeDiff, ↓reduceIte, rd_new_lt, own_new_lt, mp_new_lt, rd_newm_lt, own_newm_lt, mp_newm_lt, rd_wr_ne, own_wr_ne, mp_wr_ne, rd_wrm_ne, own_wrm_ne, mp_wrm_ne, rd_new_eq, own_new_eq, mp_newm_eq, s_cells_Cells_Len, rd_of_own a1, a4.look]
  refine ⟨?_, rfl⟩
  unfold many0
  cases many i <;> rfl

theorem cells_there_spec {H : Hp} {c : Nat} {S : Nat → Prop} {st : Int} {cs : List Ce} {len : Nat} {rt : Nat → Nat} {many : Int → Option Int} (h : CellsAt H c S st cs len rt many) (i : Int) :
    CallH Try.prog n_cells_Cells_there [ptr c, i64 i] H fun v H' => Post (v = .bool (decide (0 ≤ i ∧ i < cs.length)) ∧ H = H') := by
  obtain ⟨⟨fb, nb, ns, mb, a1, a2, a3, a4, a5, a6, a7⟩, h2, h3, h4, h5⟩ := h
  refine c_cells_Cells_there ⟨rfl, ?_⟩
  simp (disch := (first | omega | (simp only [size_new, size_newm, size_wr, size_wrm] <;> omega) | fail)) only [go_sem, Nat.reduceBEq, Nat.reduceAdd, Nat.reduceMul, Nat.reduceLeDiff, ↓reduceIte, rd_new_lt, own_new_lt, mp_new_lt, rd_newm_lt, own_newm_lt, mp_newm_lt, rd_wr_ne, own_wr_ne, mp_wr_ne, rd_wrm_ne, own_wrm_ne, mp_wrm_ne, rd_new_eq, own_new_eq, mp_newm_eq, s_cells_Cells_there]
  refine Both.dec (fun h => ?_) (fun h => ?_) <;> simp (disch := (first | omega | (simp only [size_new, size_newm, size_wr, size_wrm] <;> omega) | fail)) only [go_sem, Nat.reduceBEq, Nat.reduceAdd, Nat.reduceMul, Nat.reduceLeDiff, ↓reduceIte, rd_new_lt, own_new_lt, mp_new_lt, rd_newm_lt, own_newm_lt, mp_newm_lt, rd_wr_ne, own_wr_ne, mp_wr_ne, rd_wrm_ne, own_wrm_ne, mp_wrm_ne, rd_new_eq, own_new_eq, mp_newm_eq, rd_of_own a1]
  · exact ⟨congrArg Value.bool (by rw [decide_eq_decide]; omega), rfl⟩
  · exact ⟨congrArg Value.bool (decide_eq_false (by omega)).symm, rfl⟩

theorem cell_at {cs : List Ce} {i : Nat} {c : Ce} (hi : cs[i]? = some c) :
    (flatC cs)[i * 3]? = some (i64 c.1) ∧ (flatC cs)[i * 3 + 1]? = some (i64 c.2.1) ∧ (flatC cs)[i * 3 + 2]? = some (u64 c.2.2) ∧ ((flatC cs).drop (i * 3 + 1)).take 2 = [i64 c.2.1, u64 c.2.2] := by
  have hx : ∀ (cs : List Ce) (i : Nat) (c : Ce), cs[i]? = some c → (flatC cs)[i * 3]? = some (i64 c.1) ∧ (flatC cs)[i * 3 + 1]? = some (i64 c.2.1) ∧ (flatC cs)[i * 3 + 2]? = some (u64 c.2.2) := by
    intro cs
    induction cs with
    | nil => intro i c h; simp at h
    | cons a r ih =>
      intro i c h
      have e : flatC (a :: r) = i64 a.1 :: i64 a.2.1 :: u64 a.2.2 :: flatC r := rfl
      rw [e]
      cases i with
      | zero => simp at h; subst h; exact ⟨rfl, rfl, rfl⟩
      | succ i =>
        have := ih i c (by simpa using h)
        rw [show (i + 1) * 3 = i * 3 + 3 by omega]
        simpa using this
  obtain ⟨x0, x1, x2⟩ := hx cs i c hi
  refine ⟨x0, x1, x2, ?_⟩
  apply List.ext_getElem?
  intro k
  rw [List.getElem?_take]
  match k with
  | 0 => simpa using x1
  | 1 => rw [if_pos (by omega), List.getElem?_drop]; exact x2
  | k + 2 => rw [if_neg (by omega)]; rfl

/-- Is a slot in a heap? -/
def InC (cs : List Ce) (i : Int) : Prop := 0 ≤ i ∧ ∃ c, cs[i.toNat]? = some c ∧ 0 < c.1
instance (cs : List Ce) (i : Int) : Decidable (InC cs i) :=
  match h : cs[i.toNat]? with
  | none => .isFalse fun ⟨_, c, h1, _⟩ => by rw [h] at h1; simp at h1
  | some c => if h0 : 0 ≤ i ∧ 0 < c.1 then .isTrue ⟨h0.1, c, h, h0.2⟩ else .isFalse fun ⟨h1, c', h2, h3⟩ => by rw [h] at h2; injection h2 with h2; subst h2; exact h0 ⟨h1, h3⟩

theorem cells_in_spec {H : Hp} {c : Nat} {S : Nat → Prop} {st : Int} {cs : List Ce} {len : Nat} {rt : Nat → Nat} {many : Int → Option Int} (h : CellsAt H c S st cs len rt many) (i : Int) :
    CallH Try.prog n_cells_Cells_in [ptr c, i64 i] H fun v H' => Post (v = .bool (decide (InC cs i)) ∧ H = H') := by
  have ht := cells_there_spec h i
  obtain ⟨⟨fb, nb, ns, mb, a1, a2, a3, a4, a5, a6, a7⟩, h2, h3, h4, h5⟩ := h
  refine c_cells_Cells_in ⟨rfl, ?_⟩
  simp (disch := (first | omega | (simp only [size_new, size_newm, size_wr, size_wrm] <;> omega) | fail)) only [go_sem, Nat.reduceBEq, Nat.reduceAdd, Nat.reduceMul, Nat.reduceLeDiff, ↓reduceIte, rd_new_lt, own_new_lt, mp_new_lt, rd_newm_lt, own_newm_lt, mp_newm_lt, rd_wr_ne, own_wr_ne, mp_wr_ne, rd_wrm_ne, own_wrm_ne, mp_wrm_ne, rd_new_eq, own_new_eq, mp_newm_eq, s_cells_Cells_in]
  refine ht.mono ?_
  rintro _ _ ⟨rfl, rfl⟩
  simp (disch := (first | omega | (simp only [size_new, size_newm, size_wr, size_wrm] <;> omega) | fail)) only [go_sem, Nat.reduceBEq, Nat.reduceAdd, Nat.reduceMul, Nat.reduceLeDiff, ↓reduceIte, rd_new_lt, own_new_lt, mp_new_lt, rd_newm_lt, own_newm_lt, mp_newm_lt, rd_wr_ne, own_wr_ne, mp_wr_ne, rd_wrm_ne, own_wrm_ne, mp_wrm_ne, rd_new_eq, own_new_eq, mp_newm_eq]
  refine Both.dec (fun h => ?_) (fun h => ?_) <;> simp (disch := (first | omega | (simp only [size_new, size_newm, size_wr, size_wrm] <;> omega) | fail)) only [go_sem, Nat.reduceBEq, Nat.reduceAdd, Nat.reduceMul, Nat.reduceLeDiff, ↓reduceIte, rd_new_lt, own_new_lt, mp_new_lt, rd_newm_lt, own_newm_lt, mp_newm_lt, rd_wr_ne, own_wr_ne, mp_wr_ne, rd_wrm_ne, own_wrm_ne, mp_wrm_ne, rd_new_eq, own_new_eq, mp_newm_eq, rd_of_own a1]
  · obtain ⟨x, hx⟩ : ∃ x, cs[i.toNat]? = some x := ⟨_, List.getElem?_eq_getElem (by omega)⟩
    obtain ⟨x0, x1, x2, x3⟩ := cell_at hx
    refine ⟨by omega, ?_⟩
    simp (disch := (first | omega | (simp only [size_new, size_newm, size_wr, size_wrm] <;> omega) | fail)) only [go_sem, Nat.reduceBEq, Nat.reduceAdd, Nat.reduceMul, Nat.reduceLeDiff, ↓reduceIte, rd_new_lt, own_new_lt, mp_new_lt, rd_newm_lt, own_newm_lt, mp_newm_lt, rd_wr_ne, own_wr_ne, mp_wr_ne, rd_wrm_ne, own_wrm_ne, mp_wrm_ne, rd_new_eq, own_new_eq, mp_newm_eq, rd_of_own a2, x0, Nat.add_zero, Nat.zero_add]
    exact ⟨congrArg Value.bool (by rw [decide_eq_decide]; exact ⟨fun hh => ⟨h.1, x, hx, hh⟩, fun ⟨_, c, e1, e2⟩ => by rw [hx] at e1; injection e1 with e1; subst e1; exact e2⟩), rfl⟩
  · exact ⟨congrArg Value.bool (decide_eq_false (by rintro ⟨x, c, x1, x2⟩; have := (List.getElem?_eq_some_iff.1 x1).1; omega)).symm, rfl⟩

theorem flatC_set (cs : List Ce) (i : Nat) (c : Ce) (hi : i < cs.length) : splice (flatC cs) (i * 3) [i64 c.1, i64 c.2.1, u64 c.2.2] = flatC (cs.set i c) := by
  simp only [splice]
  induction cs generalizing i with
  | nil => simp at hi
  | cons a r ih =>
    have e : flatC (a :: r) = i64 a.1 :: i64 a.2.1 :: u64 a.2.2 :: flatC r := rfl
    cases i with
    | zero => rfl
    | succ i =>
      have e2 : flatC ((a :: r).set (i + 1) c) = i64 a.1 :: i64 a.2.1 :: u64 a.2.2 :: flatC (r.set i c) := rfl
      rw [e, e2, show (i + 1) * 3 = i * 3 + 1 + 1 + 1 by omega]
      simp only [List.set_cons_succ]
      rw [ih i (by simpa using hi)]

theorem cells_Make_spec {H : Hp} {c : Nat} {S : Nat → Prop} {st : Int} {cs : List Ce} {len : Nat} {rt : Nat → Nat} {many : Int → Option Int} (h : CellsAt H c S st cs len rt many) :
    CallH Try.prog n_cells_Cells_Make [ptr c] H fun v H' => Post (
      (len = 65537 ∧ v = i64 0 ∧ H = H') ∨
      (len ≠ 65537 ∧ v = i64 len ∧ ∃ S', CellsAt H' c S' st cs (len + 1) (fun i => if i = len then i else rt i) many ∧ Ext S H H' ∧ ∀ x, S' x → S x ∨ H.size ≤ x)) := by
  obtain ⟨⟨fb, nb, ns, mb, a1, a2, a3, a4, a5, a6, a7⟩, h2, h3, h4, h5⟩ := h
  refine c_cells_Cells_Make ⟨rfl, ?_⟩
  simp (disch := (first | omega | (simp only [size_new, size_newm, size_wr, size_wrm] <;> omega) | fail)) only [go_sem, Nat.reduceBEq, Nat.reduceAdd, Nat.reduceMul, Nat.reduceLeDiff, ↓reduceIte, rd_new_lt, own_new_lt, mp_new_lt, rd_newm_lt, own_newm_lt, mp_newm_lt, rd_wr_ne, own_wr_ne, mp_wr_ne, rd_wrm_ne, own_wrm_ne, mp_wrm_ne, rd_new_eq, own_new_eq, mp_newm_eq, s_cells_Cells_Make, rd_of_own a1]
  refine (names_Make_spec a3).mono ?_
  rintro _ H1 (⟨hl, rfl, rfl⟩ | ⟨hl, rfl, s', b1, b2, b3⟩)
  · simp (disch := (first | omega | (simp only [size_new, size_newm, size_wr, size_wrm] <;> omega) | fail)) only [go_sem, Nat.reduceBEq, Nat.reduceAdd, Nat.reduceMul, Nat.reduceLeDiff, ↓reduceIte, rd_new_lt, own_new_lt, mp_new_lt, rd_newm_lt, own_newm_lt, mp_newm_lt, rd_wr_ne, own_wr_ne, mp_wr_ne, rd_wrm_ne, own_wrm_ne, mp_wrm_ne, rd_new_eq, own_new_eq, mp_newm_eq]
    exact .inl ⟨by omega, rfl, rfl⟩
  · simp (disch := (first | omega | (simp only [size_new, size_newm, size_wr, size_wrm] <;> omega) | fail)) only [go_sem, Nat.reduceBEq, Nat.reduceAdd, Nat.reduceMul, Nat.reduceLeDiff, ↓reduceIte, rd_new_lt, own_new_lt, mp_new_lt, rd_newm_lt, own_newm_lt, mp_newm_lt, rd_wr_ne, own_wr_ne, mp_wr_ne, rd_wrm_ne, own_wrm_ne, mp_wrm_ne, rd_new_eq, own_new_eq, mp_newm_eq]
    obtain ⟨s1, s2, s3, s4, s5⟩ := a5
    obtain ⟨d1, d2, d3, d4⟩ := a6
    obtain ⟨⟨d5, d6, d7⟩, d8, d9⟩ := a7
    have l1 := own_lt a1
    have l2 := own_lt a2
    have l3 := a4.lt
    refine .inr ⟨by omega, rfl, fun x => S x ∨ x = s', ⟨⟨fb, nb, s', mb, b2.own a1 (by omega), b2.own a2 (by omega), b1, a4.ext b2 (by omega), ⟨.inl s1, .inl s2, .inl s3, .inr rfl, .inl s5⟩, ⟨d1, d2, by omega, d4⟩, ⟨d5, by omega, d7⟩, d8, by omega⟩, h2, h3, h4, fun x hx => hx.elim (fun h => Nat.lt_of_lt_of_le (h5 x h) b2.size) (fun h => by rw [h]; exact b1.lt2)⟩,
      b2.mono (fun x _ hx => hx.elim (fun e => e ▸ s3) (fun e => e ▸ s4)), ?_⟩
    rintro x (hx | rfl)
    · exact .inl hx
    · rcases b3 with rfl | b3
      · exact .inl s4
      · exact .inr b3.1

theorem cells_Put_spec {H : Hp} {c : Nat} {S : Nat → Prop} {st : Int} {cs : List Ce} {len : Nat} {rt : Nat → Nat} {many : Int → Option Int} (h : CellsAt H c S st cs len rt many) (g i k s : Int)
    (hm : many0 many g ≤ 1000000 ∧ 0 ≤ many0 many g) :
    CallH Try.prog n_cells_Cells_Put [ptr c, i64 g, i64 i, ent k s] H fun v H' => Post (
      let ok := (0 < g ∧ g < len ∧ rt g.toNat = g.toNat) ∧ (0 ≤ i ∧ i < cs.length) ∧ ¬ InC cs i
      (¬ ok ∧ v = .bool false ∧ CellsAt H' c S st cs len rt many ∧ Ext S H H') ∨
      (ok ∧ v = .bool true ∧ CellsAt H' c S st (cs.set i.toNat (g, k, s)) len rt (fun j => if j = g then some (many0 many g + 1) else many j) ∧ Ext S H H')) := by
  have hc0 : Ext (fun _ => False) H (H.new 70 [i64 k, u64 s]) := (Ext.refl _ _).new _ _
  have h' := h.ext hc0 (fun _ _ h => h)
  refine c_cells_Cells_Put ⟨rfl, ?_⟩
  simp (disch := (first | omega | (simp only [size_new, size_newm, size_wr, size_wrm] <;> omega) | fail)) only [go_sem, Nat.reduceBEq, Nat.reduceAdd, Nat.reduceMul, Nat.reduceLeDiff, ↓reduceIte, rd_new_lt, own_new_lt, mp_new_lt, rd_newm_lt, own_newm_lt, mp_newm_lt, rd_wr_ne, own_wr_ne, mp_wr_ne, rd_wrm_ne, own_wrm_ne, mp_wrm_ne, rd_new_eq, own_new_eq, mp_newm_eq, s_cells_Cells_Put, ent]
  refine (cells_Has_spec h' g).mono ?_
  rintro _ _ ⟨rfl, rfl⟩
  simp (disch := (first | omega | (simp only [size_new, size_newm, size_wr, size_wrm] <;> omega) | fail)) only [go_sem, Nat.reduceBEq, Nat.reduceAdd, Nat.reduceMul, Nat.reduceLeDiff, ↓reduceIte, rd_new_lt, own_new_lt, mp_new_lt, rd_newm_lt, own_newm_lt, mp_newm_lt, rd_wr_ne, own_wr_ne, mp_wr_ne, rd_wrm_ne, own_wrm_ne, mp_wrm_ne, rd_new_eq, own_new_eq, mp_newm_eq]
  have hfail : ∀ v, v = Value.bool false → ¬ ((0 < g ∧ g < len ∧ rt g.toNat = g.toNat) ∧ (0 ≤ i ∧ i < cs.length) ∧ ¬ InC cs i) →
      ((¬ ((0 < g ∧ g < len ∧ rt g.toNat = g.toNat) ∧ (0 ≤ i ∧ i < cs.length) ∧ ¬ InC cs i) ∧ v = .bool false ∧ CellsAt (H.new 70 [i64 k, u64 s]) c S st cs len rt many ∧ Ext S H (H.new 70 [i64 k, u64 s])) ∨
      (((0 < g ∧ g < len ∧ rt g.toNat = g.toNat) ∧ (0 ≤ i ∧ i < cs.length) ∧ ¬ InC cs i) ∧ v = .bool true ∧ CellsAt (H.new 70 [i64 k, u64 s]) c S st (cs.set i.toNat (g, k, s)) len rt (fun j => if j = g then some (many0 many g + 1) else many j) ∧ Ext S H (H.new 70 [i64 k, u64 s]))) :=
    fun v hv hn => .inl ⟨hn, hv, h', (Ext.refl _ _).new _ _⟩
  refine Both.dec (fun hg => ?_) (fun hg => ?_) <;> simp (disch := (first | omega | (simp only [size_new, size_newm, size_wr, size_wrm] <;> omega) | fail)) only [go_sem, Nat.reduceBEq, Nat.reduceAdd, Nat.reduceMul, Nat.reduceLeDiff, ↓reduceIte, rd_new_lt, own_new_lt, mp_new_lt, rd_newm_lt, own_newm_lt, mp_newm_lt, rd_wr_ne, own_wr_ne, mp_wr_ne, rd_wrm_ne, own_wrm_ne, mp_wrm_ne, rd_new_eq, own_new_eq, mp_newm_eq]
  · refine (cells_there_spec h' i).mono ?_
    rintro _ _ ⟨rfl, rfl⟩
    simp (disch := (first | omega | (simp only [size_new, size_newm, size_wr, size_wrm] <;> omega) | fail)) only [go_sem, Nat.reduceBEq, Nat.reduceAdd, Nat.reduceMul, Nat.reduceLeDiff, ↓reduceIte, rd_new_lt, own_new_lt, mp_new_lt, rd_newm_lt, own_newm_lt, mp_newm_lt, rd_wr_ne, own_wr_ne, mp_wr_ne, rd_wrm_ne, own_wrm_ne, mp_wrm_ne, rd_new_eq, own_new_eq, mp_newm_eq]
    refine Both.dec (fun hi => ?_) (fun hi => ?_) <;> simp (disch := (first | omega | (simp only [size_new, size_newm, size_wr, size_wrm] <;> omega) | fail)) only [go_sem, Nat.reduceBEq, Nat.reduceAdd, Nat.reduceMul, Nat.reduceLeDiff, ↓reduceIte, rd_new_lt, own_new_lt, mp_new_lt, rd_newm_lt, own_newm_lt, mp_newm_lt, rd_wr_ne, own_wr_ne, mp_wr_ne, rd_wrm_ne, own_wrm_ne, mp_wrm_ne, rd_new_eq, own_new_eq, mp_newm_eq]
    · refine (cells_in_spec h' i).mono ?_
      rintro _ _ ⟨rfl, rfl⟩
      simp (disch := (first | omega | (simp only [size_new, size_newm, size_wr, size_wrm] <;> omega) | fail)) only [go_sem, Nat.reduceBEq, Nat.reduceAdd, Nat.reduceMul, Nat.reduceLeDiff, ↓reduceIte, rd_new_lt, own_new_lt, mp_new_lt, rd_newm_lt, own_newm_lt, mp_newm_lt, rd_wr_ne, own_wr_ne, mp_wr_ne, rd_wrm_ne, own_wrm_ne, mp_wrm_ne, rd_new_eq, own_new_eq, mp_newm_eq]
      refine Both.dec (fun hin => ?_) (fun hin => ?_) <;> simp (disch := (first | omega | (simp only [size_new, size_newm, size_wr, size_wrm] <;> omega) | fail)) only [go_sem, Nat.reduceBEq, Nat.reduceAdd, Nat.reduceMul, Nat.reduceLeDiff, ↓reduceIte, rd_new_lt, own_new_lt, mp_new_lt, rd_newm_lt, own_newm_lt, mp_newm_lt, rd_wr_ne, own_wr_ne, mp_wr_ne, rd_wrm_ne, own_wrm_ne, mp_wrm_ne, rd_new_eq, own_new_eq, mp_newm_eq]
      · exact hfail _ rfl (fun hc => hc.2.2 hin)
      · obtain ⟨⟨fb, nb, ns, mb, a1, a2, a3, a4, a5, a6, a7⟩, h2, h3, h4, h5⟩ := h'
        simp (disch := (first | omega | (simp only [size_new, size_newm, size_wr, size_wrm] <;> omega) | fail)) only [go_sem, Nat.reduceBEq, Nat.reduceAdd, Nat.reduceMul, Nat.reduceLeDiff, ↓reduceIte, rd_new_lt, own_new_lt, mp_new_lt, rd_newm_lt, own_newm_lt, mp_newm_lt, rd_wr_ne, own_wr_ne, mp_wr_ne, rd_wrm_ne, own_wrm_ne, mp_wrm_ne, rd_new_eq, own_new_eq, mp_newm_eq, rd_of_own a1]
        refine ⟨by omega, ?_⟩
        simp (disch := (first | omega | (simp only [size_new, size_newm, size_wr, size_wrm] <;> omega) | fail)) only [go_sem, Nat.reduceBEq, Nat.reduceAdd, Nat.reduceMul, Nat.reduceLeDiff, ↓reduceIte, rd_new_lt, own_new_lt, mp_new_lt, rd_newm_lt, own_newm_lt, mp_newm_lt, rd_wr_ne, own_wr_ne, mp_wr_ne, rd_wrm_ne, own_wrm_ne, mp_wrm_ne, rd_new_eq, own_new_eq, mp_newm_eq, a2]
        refine ⟨by rw [flatC_length]; omega, ?_⟩
        rw [show splice (flatC cs) (i.toNat * 3) (vcells (Value.agg #[Value.int .i64 g, i64 k, u64 s])) = flatC (cs.set i.toNat (g, k, s)) from flatC_set cs i.toNat (g, k, s) (by omega)]
        obtain ⟨s1, s2, s3, s4, s5⟩ := a5
        obtain ⟨d1, d2, d3, d4⟩ := a6
        obtain ⟨⟨d5, d6, d7⟩, d8, d9⟩ := a7
        have e1 : Ext (fun x => x = fb) (H.new 70 [i64 k, u64 s]) ((H.new 70 [i64 k, u64 s]).wr fb (flatC (cs.set i.toNat (g, k, s)))) := (Ext.refl (fun x => x = fb) _).wr (fun _ => rfl) _
        have a1' := e1.own a1 d1
        have a2' : ((H.new 70 [i64 k, u64 s]).wr fb (flatC (cs.set i.toNat (g, k, s)))).own fb = _ := own_wr_same a2
        have a3' := a3.ext e1 (Ne.symm d5) (Ne.symm d6)
        have a4' := a4.ext e1 (Ne.symm d7)
        have el : okTuple false (Value.int .i64 0) ((many g).map i64) = i64 (many0 many g) := by unfold many0; cases many g <;> rfl
        simp (disch := (first | omega | (simp only [size_new, size_newm, size_wr, size_wrm] <;> omega) | fail)) only [go_sem, Nat.reduceBEq, Nat.reduceAdd, Nat.reduceMul, Nat.reduceLeDiff, ↓reduceIte, rd_new_lt, own_new_lt, mp_new_lt, rd_newm_lt, own_newm_lt, mp_newm_lt, rd_wr_ne, own_wr_ne, mp_wr_ne, rd_wrm_ne, own_wrm_ne, mp_wrm_ne, rd_new_eq, own_new_eq, mp_newm_eq, rd_of_own a1', a4'.look, el]
        rw [wrap64 (by omega) (by omega)]
        refine a4'.upd fun H2 m2 e2 => ?_
        simp (disch := (first | omega | (simp only [size_new, size_newm, size_wr, size_wrm] <;> omega) | fail)) only [go_sem, Nat.reduceBEq, Nat.reduceAdd, Nat.reduceMul, Nat.reduceLeDiff, ↓reduceIte, rd_new_lt, own_new_lt, mp_new_lt, rd_newm_lt, own_newm_lt, mp_newm_lt, rd_wr_ne, own_wr_ne, mp_wr_ne, rd_wrm_ne, own_wrm_ne, mp_wrm_ne, rd_new_eq, own_new_eq, mp_newm_eq]
        refine .inr ⟨⟨hg, hi, hin⟩, rfl, ⟨⟨fb, nb, ns, mb, by rw [List.length_set]; exact e2.own a1' d4, e2.own a2' d7, a3'.ext e2 d8 d9, ?_, ⟨s1, s2, s3, s4, s5⟩, ⟨d1, d2, d3, d4⟩, ⟨d5, d6, d7⟩, d8, d9⟩, h2, h3, by rw [List.length_set]; exact h4, fun x hx => Nat.lt_of_lt_of_le (h5 x hx) (Nat.le_trans e1.size e2.size)⟩, ?_⟩
        · have : (fun j => Option.map i64 (if j = g then some (many0 many g + 1) else many j)) = setF (fun j => (many j).map i64) g (i64 (many0 many g + 1)) := by
            funext j; unfold setF; by_cases hj : j = g <;> simp [hj]
          rw [this]; exact m2
        · exact (((Ext.refl S H).new 70 [i64 k, u64 s]).trans (e1.mono fun x _ hx => hx ▸ s2)).trans (e2.mono fun x _ hx => hx ▸ s5)
    · exact hfail _ rfl (fun hc => hi hc.2.1)
  · exact hfail _ rfl (fun hc => hg hc.1)

theorem stepsI_le {m n : Int} (h0 : 0 ≤ m) (h1 : m ≤ 4611686018427387904) : 0 ≤ stepsI m n ∧ stepsI m n ≤ 4611686018427387904 := by
  unfold stepsI; split
  · exact ⟨h0, h1⟩
  · split <;> omega

theorem cells_Steps_spec {H : Hp} {c : Nat} {S : Nat → Prop} {st : Int} {cs : List Ce} {len : Nat} {rt : Nat → Nat} {many : Int → Option Int} (h : CellsAt H c S st cs len rt many) :
    CallH Try.prog n_gauge_Meter_Steps [ptr c] H fun v H' => Post (v = i64 st ∧ H = H') := by
  obtain ⟨⟨fb, nb, ns, mb, a1, a2, a3, a4, a5, a6, a7⟩, h2, h3, h4, h5⟩ := h
  exact gauge_Steps_spec a1

/-- A slot is ahead of another one. -/
def AheadC (a b : Int) (x y : Ce) : Prop := cmpE x.2.1 x.2.2 y.2.1 y.2.2 < 0 ∨ cmpE x.2.1 x.2.2 y.2.1 y.2.2 = 0 ∧ a < b
instance (a b : Int) (x y : Ce) : Decidable (AheadC a b x y) := inferInstanceAs (Decidable (_ ∨ _ ∧ _))

theorem cells_Ahead_spec {H : Hp} {c : Nat} {S : Nat → Prop} {st : Int} {cs : List Ce} {len : Nat} {rt : Nat → Nat} {many : Int → Option Int} (h : CellsAt H c S st cs len rt many) (a b : Int) :
    CallH Try.prog n_cells_Cells_Ahead [ptr c, i64 a, i64 b] H fun v H' => Post (
      (¬ (InC cs a ∧ InC cs b) ∧ v = .bool false ∧ H = H') ∨
      (InC cs a ∧ InC cs b) ∧ ∃ x y, cs[a.toNat]? = some x ∧ cs[b.toNat]? = some y ∧ v = .bool (decide (AheadC a b x y)) ∧ CellsAt H' c S (stepsI st 1) cs len rt many ∧ Ext S H H') := by
  have h' := h
  obtain ⟨⟨fb, nb, ns, mb, a1, a2, a3, a4, a5, a6, a7⟩, h2, h3, h4, h5⟩ := h
  refine c_cells_Cells_Ahead ⟨rfl, ?_⟩
  simp (disch := (first | omega | (simp only [size_new, size_newm, size_wr, size_wrm] <;> omega) | fail)) only [go_sem, Nat.reduceBEq, Nat.reduceAdd, Nat.reduceMul, Nat.reduceLeDiff, ↓reduceIte, rd_new_lt, own_new_lt, mp_new_lt, rd_newm_lt, own_newm_lt, mp_newm_lt, rd_wr_ne, own_wr_ne, mp_wr_ne, rd_wrm_ne, own_wrm_ne, mp_wrm_ne, rd_new_eq, own_new_eq, mp_newm_eq, s_cells_Cells_Ahead]
  refine (cells_in_spec h' a).mono ?_
  rintro _ _ ⟨rfl, rfl⟩
  simp (disch := (first | omega | (simp only [size_new, size_newm, size_wr, size_wrm] <;> omega) | fail)) only [go_sem, Nat.reduceBEq, Nat.reduceAdd, Nat.reduceMul, Nat.reduceLeDiff, ↓reduceIte, rd_new_lt, own_new_lt, mp_new_lt, rd_newm_lt, own_newm_lt, mp_newm_lt, rd_wr_ne, own_wr_ne, mp_wr_ne, rd_wrm_ne, own_wrm_ne, mp_wrm_ne, rd_new_eq, own_new_eq, mp_newm_eq]
  refine Both.dec (fun ha => ?_) (fun ha => ?_) <;> simp (disch := (first | omega | (simp only [size_new, size_newm, size_wr, size_wrm] <;> omega) | fail)) only [go_sem, Nat.reduceBEq, Nat.reduceAdd, Nat.reduceMul, Nat.reduceLeDiff, ↓reduceIte, rd_new_lt, own_new_lt, mp_new_lt, rd_newm_lt, own_newm_lt, mp_newm_lt, rd_wr_ne, own_wr_ne, mp_wr_ne, rd_wrm_ne, own_wrm_ne, mp_wrm_ne, rd_new_eq, own_new_eq, mp_newm_eq]
  · refine (cells_in_spec h' b).mono ?_
    rintro _ _ ⟨rfl, rfl⟩
    simp (disch := (first | omega | (simp only [size_new, size_newm, size_wr, size_wrm] <;> omega) | fail)) only [go_sem, Nat.reduceBEq, Nat.reduceAdd, Nat.reduceMul, Nat.reduceLeDiff, ↓reduceIte, rd_new_lt, own_new_lt, mp_new_lt, rd_newm_lt, own_newm_lt, mp_newm_lt, rd_wr_ne, own_wr_ne, mp_wr_ne, rd_wrm_ne, own_wrm_ne, mp_wrm_ne, rd_new_eq, own_new_eq, mp_newm_eq]
    refine Both.dec (fun hb => ?_) (fun hb => ?_) <;> simp (disch := (first | omega | (simp only [size_new, size_newm, size_wr, size_wrm] <;> omega) | fail)) only [go_sem, Nat.reduceBEq, Nat.reduceAdd, Nat.reduceMul, Nat.reduceLeDiff, ↓reduceIte, rd_new_lt, own_new_lt, mp_new_lt, rd_newm_lt, own_newm_lt, mp_newm_lt, rd_wr_ne, own_wr_ne, mp_wr_ne, rd_wrm_ne, own_wrm_ne, mp_wrm_ne, rd_new_eq, own_new_eq, mp_newm_eq]
    · obtain ⟨ha0, x, hx, hx0⟩ := id ha
      obtain ⟨hb0, y, hy, hy0⟩ := id hb
      refine (gauge_Count_spec a1 ⟨h2, h3⟩ 1 (by omega)).mono ?_
      rintro v H1 hH
      obtain ⟨rfl, b1, b2, b3, b4⟩ : v = .tuple [].toArray ∧ H1.own c = some [i64 (stepsI st 1), .slice (some ⟨fb, 0, none⟩) cs.length cs.length, ptr nb, .map (some mb)] ∧ H1.own fb = some (flatC cs) ∧ CellsAt H1 c S (stepsI st 1) cs len rt many ∧ Ext S H H1 := by
        have hst := stepsI_le (n := 1) h2 h3
        rcases hH.out with ⟨rfl, rfl⟩ | ⟨rfl, rfl, hs⟩
        · obtain ⟨s1, s2, s3, s4, s5⟩ := a5
          obtain ⟨d1, d2, d3, d4⟩ := a6
          have e1 : Ext (fun x => x = c) H (H.wr c [i64 (stepsI st 1), .slice (some ⟨fb, 0, none⟩) cs.length cs.length, ptr nb, .map (some mb)]) := (Ext.refl (fun x => x = c) _).wr (fun _ => rfl) _
          exact ⟨rfl, own_wr_same a1, e1.own a2 (Ne.symm d1), ⟨⟨fb, nb, ns, mb, own_wr_same a1, e1.own a2 (Ne.symm d1), a3.ext e1 (Ne.symm d2) (Ne.symm d3), a4.ext e1 (Ne.symm d4), ⟨s1, s2, s3, s4, s5⟩, ⟨d1, d2, d3, d4⟩, a7⟩, hst.1, hst.2, h4, fun x hx => Nat.lt_of_lt_of_le (h5 x hx) e1.size⟩, e1.mono fun x _ hx => hx ▸ s1⟩
        · rw [hs]
          exact ⟨rfl, a1, a2, h', Ext.refl _ _⟩
      have al := (List.getElem?_eq_some_iff.1 hx).1
      have bl := (List.getElem?_eq_some_iff.1 hy).1
      obtain ⟨x1, x2, x3, x4⟩ := cell_at hx
      obtain ⟨y1, y2, y3, y4⟩ := cell_at hy
      have fl := flatC_length cs
      simp (disch := (first | omega | (simp only [size_new, size_newm, size_wr, size_wrm] <;> omega) | fail)) only [go_sem, Nat.reduceBEq, Nat.reduceAdd, Nat.reduceMul, Nat.reduceLeDiff, ↓reduceIte, rd_new_lt, own_new_lt, mp_new_lt, rd_newm_lt, own_newm_lt, mp_newm_lt, rd_wr_ne, own_wr_ne, mp_wr_ne, rd_wrm_ne, own_wrm_ne, mp_wrm_ne, rd_new_eq, own_new_eq, mp_newm_eq, rd_of_own b1]
      refine ⟨by omega, ?_⟩
      simp (disch := (first | omega | (simp only [size_new, size_newm, size_wr, size_wrm] <;> omega) | fail)) only [go_sem, Nat.reduceBEq, Nat.reduceAdd, Nat.reduceMul, Nat.reduceLeDiff, ↓reduceIte, rd_new_lt, own_new_lt, mp_new_lt, rd_newm_lt, own_newm_lt, mp_newm_lt, rd_wr_ne, own_wr_ne, mp_wr_ne, rd_wrm_ne, own_wrm_ne, mp_wrm_ne, rd_new_eq, own_new_eq, mp_newm_eq, rd_of_own b1, rd_of_own b2, x4]
      refine ⟨by omega, ?_⟩
      simp (disch := (first | omega | (simp only [size_new, size_newm, size_wr, size_wrm] <;> omega) | fail)) only [go_sem, Nat.reduceBEq, Nat.reduceAdd, Nat.reduceMul, Nat.reduceLeDiff, ↓reduceIte, rd_new_lt, own_new_lt, mp_new_lt, rd_newm_lt, own_newm_lt, mp_newm_lt, rd_wr_ne, own_wr_ne, mp_wr_ne, rd_wrm_ne, own_wrm_ne, mp_wrm_ne, rd_new_eq, own_new_eq, mp_newm_eq, rd_of_own b1, x4]
      refine ⟨by omega, ?_⟩
      simp (disch := (first | omega | (simp only [size_new, size_newm, size_wr, size_wrm] <;> omega) | fail)) only [go_sem, Nat.reduceBEq, Nat.reduceAdd, Nat.reduceMul, Nat.reduceLeDiff, ↓reduceIte, rd_new_lt, own_new_lt, mp_new_lt, rd_newm_lt, own_newm_lt, mp_newm_lt, rd_wr_ne, own_wr_ne, mp_wr_ne, rd_wrm_ne, own_wrm_ne, mp_wrm_ne, rd_new_eq, own_new_eq, mp_newm_eq, rd_of_own b1, rd_of_own b2, y4]
      refine ⟨by omega, ?_⟩
      simp (disch := (first | omega | (simp only [size_new, size_newm, size_wr, size_wrm] <;> omega) | fail)) only [go_sem, Nat.reduceBEq, Nat.reduceAdd, Nat.reduceMul, Nat.reduceLeDiff, ↓reduceIte, rd_new_lt, own_new_lt, mp_new_lt, rd_newm_lt, own_newm_lt, mp_newm_lt, rd_wr_ne, own_wr_ne, mp_wr_ne, rd_wrm_ne, own_wrm_ne, mp_wrm_ne, rd_new_eq, own_new_eq, mp_newm_eq, x4, y4]
      refine (entry_Compare_spec x.2.1 x.2.2 y.2.1 y.2.2 _).mono ?_
      rintro _ H2 ⟨rfl, hf⟩
      simp (disch := (first | omega | (simp only [size_new, size_newm, size_wr, size_wrm] <;> omega) | fail)) only [go_sem, Nat.reduceBEq, Nat.reduceAdd, Nat.reduceMul, Nat.reduceLeDiff, ↓reduceIte, rd_new_lt, own_new_lt, mp_new_lt, rd_newm_lt, own_newm_lt, mp_newm_lt, rd_wr_ne, own_wr_ne, mp_wr_ne, rd_wrm_ne, own_wrm_ne, mp_wrm_ne, rd_new_eq, own_new_eq, mp_newm_eq]
      have b5 := b3.ext hf (fun _ _ h => h)
      have b6 := b4.trans (hf.mono fun _ _ h => h.elim)
      refine Both.dec (fun hlt => ?_) (fun hlt => ?_) <;> simp (disch := (first | omega | (simp only [size_new, size_newm, size_wr, size_wrm] <;> omega) | fail)) only [go_sem, Nat.reduceBEq, Nat.reduceAdd, Nat.reduceMul, Nat.reduceLeDiff, ↓reduceIte, rd_new_lt, own_new_lt, mp_new_lt, rd_newm_lt, own_newm_lt, mp_newm_lt, rd_wr_ne, own_wr_ne, mp_wr_ne, rd_wrm_ne, own_wrm_ne, mp_wrm_ne, rd_new_eq, own_new_eq, mp_newm_eq]
      · exact .inr ⟨⟨ha, hb⟩, x, y, hx, hy, congrArg Value.bool (decide_eq_true (show AheadC a b x y from .inl hlt)).symm, b5, b6⟩
      · refine Both.dec (fun heq => ?_) (fun heq => ?_) <;> simp (disch := (first | omega | (simp only [size_new, size_newm, size_wr, size_wrm] <;> omega) | fail)) only [go_sem, Nat.reduceBEq, Nat.reduceAdd, Nat.reduceMul, Nat.reduceLeDiff, ↓reduceIte, rd_new_lt, own_new_lt, mp_new_lt, rd_newm_lt, own_newm_lt, mp_newm_lt, rd_wr_ne, own_wr_ne, mp_wr_ne, rd_wrm_ne, own_wrm_ne, mp_wrm_ne, rd_new_eq, own_new_eq, mp_newm_eq]
        · exact .inr ⟨⟨ha, hb⟩, x, y, hx, hy, congrArg Value.bool (by rw [decide_eq_decide]; exact ⟨fun hh => .inr ⟨heq, hh⟩, fun hh => hh.elim (fun e => absurd e hlt) (·.2)⟩), b5, b6⟩
        · exact .inr ⟨⟨ha, hb⟩, x, y, hx, hy, congrArg Value.bool (decide_eq_false (show ¬ AheadC a b x y from fun hh => hh.elim hlt (fun e => heq e.1))).symm, b5, b6⟩
    · exact .inl ⟨fun hc => hb hc.2, rfl, rfl⟩
  · exact .inl ⟨fun hc => ha hc.1, rfl, rfl⟩

end Go.Proofs.Yteicchpglnamcaa
