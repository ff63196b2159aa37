/-
  The package cells, told in the document's words: which heaps there are, and of each slot its heap and its entry.
-/
import Derived.Test.YteicchpglnamcaaCells2
set_option linter.unusedVariables false
set_option linter.unusedSimpArgs false
namespace Go.Proofs.Yteicchpglnamcaa
open Go Go.Vc

/-- The document's nest. -/
structure Nw where
  hs : List Bool
  cs : List Ce

def Nw.has (w : Nw) (h : Int) : Prop := 1 ≤ h ∧ w.hs[h.toNat]? = some true
instance (w : Nw) (h : Int) : Decidable (w.has h) := inferInstanceAs (Decidable (_ ∧ _))
def Nw.len (w : Nw) (h : Int) : Int := if 0 < h then (w.cs.countP fun c => decide (c.1 = h) : Nat) else 0
def Nw.put (w : Nw) (i : Int) (c : Ce) : Nw := ⟨w.hs, w.cs.set i.toNat c⟩
def Nw.make (w : Nw) : Nw := ⟨w.hs ++ [true], w.cs⟩
def Nw.join (w : Nw) (a b : Int) : Nw := ⟨w.hs.set b.toNat false, w.cs.map fun c => if c.1 = b then (a, c.2) else c⟩
def Nw.ahead (w : Nw) (a b : Int) : Bool :=
  decide (InC w.cs a) && decide (InC w.cs b) && (match w.cs[a.toNat]?, w.cs[b.toNat]? with | some x, some y => decide (AheadC a b x y) | _, _ => false)

theorem Nw.len_le (w : Nw) (h : Int) : 0 ≤ w.len h ∧ w.len h ≤ w.cs.length := by
  unfold Nw.len
  have := List.countP_le_length (p := fun c : Ce => decide (c.1 = h)) (l := w.cs)
  split <;> omega

structure CellsRel (w : Nw) (cs : List Ce) (len : Nat) (rt : Nat → Nat) (many : Int → Option Int) : Prop where
  hl : w.hs.length = len
  h0 : w.hs[0]? = some false
  hh : ∀ h, 1 ≤ h → h < len → w.hs[h]? = some (decide (rt h = h))
  cl : w.cs = cs.map fun c => (if 0 < c.1 then ((rt c.1.toNat : Nat) : Int) else 0, c.2)
  lt : ∀ c ∈ cs, 0 ≤ c.1 ∧ c.1 < len
  mn : ∀ h : Int, many0 many h = w.len h
  low : ∀ i, i < len → rt i < len
  idem : ∀ i, i < len → rt (rt i) = rt i
  nz : ∀ i, i < len → rt i = 0 → i = 0

/-- Cells in memory that hold a nest. -/
def CellsN (H : Hp) (c : Nat) (S : Nat → Prop) (st : Int) (w : Nw) : Prop := ∃ cs len rt many, CellsAt H c S st cs len rt many ∧ CellsRel w cs len rt many

theorem CellsN.ext {H H' : Hp} {c : Nat} {S T : Nat → Prop} {st : Int} {w : Nw} (h : CellsN H c S st w) (e : Ext T H H') (hd : ∀ x, S x → ¬ T x) : CellsN H' c S st w := by
  obtain ⟨cs, len, rt, many, h1, h2⟩ := h
  exact ⟨cs, len, rt, many, h1.ext e hd, h2⟩
theorem CellsN.fresh {H H' : Hp} {c : Nat} {S : Nat → Prop} {st : Int} {w : Nw} (h : CellsN H c S st w) (e : Fresh H H') : CellsN H' c S st w := h.ext e fun _ _ h => h
theorem CellsN.slt {H : Hp} {c : Nat} {S : Nat → Prop} {st : Int} {w : Nw} (h : CellsN H c S st w) : ∀ x, S x → x < H.size := by
  obtain ⟨cs, len, rt, many, h1, h2⟩ := h
  exact h1.slt
theorem CellsN.self {H : Hp} {c : Nat} {S : Nat → Prop} {st : Int} {w : Nw} (h : CellsN H c S st w) : S c := by
  obtain ⟨cs, len, rt, many, ⟨⟨fb, nb, ns, mb, _, _, _, _, s, _⟩, _⟩, h2⟩ := h
  exact s.1
theorem CellsN.csl {H : Hp} {c : Nat} {S : Nat → Prop} {st : Int} {w : Nw} (h : CellsN H c S st w) : w.cs.length ≤ 65536 := by
  obtain ⟨cs, len, rt, many, h1, h2⟩ := h
  rw [h2.cl, List.length_map]
  exact h1.csl
theorem CellsN.st {H : Hp} {c : Nat} {S : Nat → Prop} {st : Int} {w : Nw} (h : CellsN H c S st w) : 0 ≤ st ∧ st ≤ 4611686018427387904 := by
  obtain ⟨cs, len, rt, many, h1, h2⟩ := h
  exact ⟨h1.st0, h1.st1⟩

theorem CellsRel.inC {w : Nw} {cs : List Ce} {len : Nat} {rt : Nat → Nat} {many : Int → Option Int} (h : CellsRel w cs len rt many) (i : Int) : InC w.cs i ↔ InC cs i := by
  unfold InC
  rw [h.cl]
  simp only [List.getElem?_map]
  constructor
  · rintro ⟨h0, c, hc, hp⟩
    cases hx : cs[i.toNat]? with
    | none => rw [hx] at hc; cases hc
    | some x =>
      rw [hx] at hc
      simp only [Option.map_some, Option.some.injEq] at hc
      subst hc
      refine ⟨h0, x, rfl, ?_⟩
      by_cases hx0 : 0 < x.1
      · exact hx0
      · simp [hx0] at hp
  · rintro ⟨h0, x, hx, hp⟩
    refine ⟨h0, _, by rw [hx]; rfl, ?_⟩
    have hlt := h.lt x (List.mem_of_getElem? hx)
    simp only [if_pos hp]
    have hnz : rt x.1.toNat ≠ 0 := fun e => by have := h.nz _ (by omega) e; omega
    omega

theorem CellsRel.get {w : Nw} {cs : List Ce} {len : Nat} {rt : Nat → Nat} {many : Int → Option Int} (h : CellsRel w cs len rt many) {i : Nat} {x : Ce} (hx : cs[i]? = some x) : w.cs[i]? = some (if 0 < x.1 then ((rt x.1.toNat : Nat) : Int) else 0, x.2) := by
  rw [h.cl, List.getElem?_map, hx]; rfl

theorem CellsRel.hasW {w : Nw} {cs : List Ce} {len : Nat} {rt : Nat → Nat} {many : Int → Option Int} (h : CellsRel w cs len rt many) (g : Int) : w.has g ↔ (0 < g ∧ g < len ∧ rt g.toNat = g.toNat) := by
  unfold Nw.has
  constructor
  · rintro ⟨h1, h2⟩
    have hlt := (List.getElem?_eq_some_iff.1 h2).1
    rw [h.hl] at hlt
    rw [h.hh g.toNat (by omega) hlt] at h2
    injection h2 with h2
    exact ⟨by omega, by omega, of_decide_eq_true h2⟩
  · rintro ⟨h1, h2, h3⟩
    exact ⟨by omega, by rw [h.hh g.toNat (by omega) (by omega), decide_eq_true h3]⟩

theorem cellsN_New_spec (cap : Int) (H : Hp) : CallH Try.prog n_cells_New [i64 cap] H fun v H' => Post (
    Fresh H H' ∧ ((¬ (0 ≤ cap ∧ cap ≤ 65536) ∧ v = .tuple [.pointer none, i64 31].toArray) ∨
      (0 ≤ cap ∧ cap ≤ 65536) ∧ ∃ c S, v = .tuple [ptr c, i64 0].toArray ∧ CellsN H' c S 0 ⟨[false], List.replicate cap.toNat (0, 0, 0)⟩ ∧ (∀ x, S x → H.size ≤ x))) := by
  refine (cells_New_spec cap H).mono ?_
  rintro _ H1 ⟨f, ⟨h, rfl⟩ | ⟨h, c, S, rfl, h1, h2⟩⟩
  · exact ⟨f, .inl ⟨h, rfl⟩⟩
  · refine ⟨f, .inr ⟨h, c, S, rfl, ⟨_, _, _, _, h1, ⟨rfl, rfl, fun h h1 h2 => by omega, ?_, fun c hc => ?_, fun h => ?_, fun i hi => hi, fun i hi => rfl, fun i hi h => h⟩⟩, h2⟩⟩
    · simp
    · rw [List.eq_of_mem_replicate hc]; exact ⟨by omega, by simp⟩
    · unfold Nw.len many0
      split
      · simp only [Option.getD_none, List.countP_replicate]
        rw [if_neg (by simp; omega)]; rfl
      · rfl

theorem cellsN_Capacity_spec {H : Hp} {c : Nat} {S : Nat → Prop} {st : Int} {w : Nw} (h : CellsN H c S st w) :
    CallH Try.prog n_cells_Cells_Capacity [ptr c] H fun v H' => Post (v = i64 w.cs.length ∧ H = H') := by
  obtain ⟨cs, len, rt, many, h1, h2⟩ := h
  refine (cells_Capacity_spec h1).mono ?_
  rintro _ _ ⟨rfl, rfl⟩
  exact ⟨by rw [h2.cl, List.length_map], rfl⟩

theorem cellsN_Has_spec {H : Hp} {c : Nat} {S : Nat → Prop} {st : Int} {w : Nw} (h : CellsN H c S st w) (i : Int) :
    CallH Try.prog n_cells_Cells_Has [ptr c, i64 i] H fun v H' => Post (v = .bool (decide (w.has i)) ∧ H = H') := by
  obtain ⟨cs, len, rt, many, h1, h2⟩ := h
  refine (cells_Has_spec h1 i).mono ?_
  rintro _ _ ⟨rfl, rfl⟩
  exact ⟨congrArg Value.bool (by rw [decide_eq_decide, h2.hasW]), rfl⟩

theorem cellsN_Len_spec {H : Hp} {c : Nat} {S : Nat → Prop} {st : Int} {w : Nw} (h : CellsN H c S st w) (i : Int) :
    CallH Try.prog n_cells_Cells_Len [ptr c, i64 i] H fun v H' => Post (v = i64 (w.len i) ∧ H = H') := by
  obtain ⟨cs, len, rt, many, h1, h2⟩ := h
  refine (cells_Len_spec h1 i).mono ?_
  rintro _ _ ⟨rfl, rfl⟩
  exact ⟨by rw [h2.mn], rfl⟩

theorem cellsN_Make_spec {H : Hp} {c : Nat} {S : Nat → Prop} {st : Int} {w : Nw} (h : CellsN H c S st w) :
    CallH Try.prog n_cells_Cells_Make [ptr c] H fun v H' => Post (
      (w.hs.length = 65537 ∧ v = i64 0 ∧ H = H') ∨
      (w.hs.length ≠ 65537 ∧ v = i64 w.hs.length ∧ ∃ S', CellsN H' c S' st w.make ∧ Ext S H H' ∧ ∀ x, S' x → S x ∨ H.size ≤ x)) := by
  obtain ⟨cs, len, rt, many, h1, h2⟩ := h
  refine (cells_Make_spec h1).mono ?_
  have hl := h2.hl
  rintro _ H1 (⟨e, rfl, rfl⟩ | ⟨e, rfl, S', g1, g2, g3⟩)
  · exact .inl ⟨by omega, rfl, rfl⟩
  · refine .inr ⟨by omega, by rw [hl], S', ⟨_, _, _, _, g1, ?_⟩, g2, g3⟩
    have hpos : 0 < w.hs.length := (List.getElem?_eq_some_iff.1 h2.h0).1
    refine ⟨by simp [Nw.make, hl], ?_, fun h a1 a2 => ?_, ?_, fun c hc => by have := h2.lt c hc; omega, h2.mn, fun i hi => ?_, fun i hi => ?_, fun i hi hz => ?_⟩
    · show (w.hs ++ [true])[0]? = some false
      rw [List.getElem?_append_left hpos]; exact h2.h0
    · show (w.hs ++ [true])[h]? = _
      by_cases he : h = len
      · subst he
        rw [List.getElem?_append_right (by omega), hl]
        simp
      · rw [List.getElem?_append_left (by omega), h2.hh h a1 (by omega), if_neg he]
    · show w.cs = _
      rw [h2.cl]
      apply List.map_congr_left
      intro x hx
      have := h2.lt x hx
      by_cases h0 : 0 < x.1
      · simp only [if_pos h0]; rw [if_neg (by omega)]
      · simp only [if_neg h0]
    · by_cases he : i = len
      · simp [he]
      · have := h2.low i (by omega); simp only [if_neg he]; omega
    · by_cases he : i = len
      · simp [he]
      · have := h2.low i (by omega)
        simp only [if_neg he]
        rw [if_neg (by omega)]
        exact h2.idem i (by omega)
    · by_cases he : i = len
      · simp only [if_pos he] at hz; omega
      · simp only [if_neg he] at hz; exact h2.nz i (by omega) hz

theorem countP_set_of {α : Type} (p : α → Bool) : ∀ (l : List α) (i : Nat) (x y : α), l[i]? = some x → (l.set i y).countP p + (if p x = true then 1 else 0) = l.countP p + (if p y = true then 1 else 0) := by
  intro l
  induction l with
  | nil => intro i x y h; simp at h
  | cons a l ih =>
    intro i x y h
    cases i with
    | zero =>
      simp only [List.getElem?_cons_zero, Option.some.injEq] at h
      subst h
      simp only [List.set_cons_zero, List.countP_cons]
      omega
    | succ i =>
      have := ih i x y (by simpa using h)
      simp only [List.set_cons_succ, List.countP_cons]
      omega

/-- A slot's cell is another one: how many are in each heap. -/
theorem Nw.len_put {w : Nw} {i : Int} {x y : Ce} (hx : w.cs[i.toNat]? = some x) (h : Int) : (w.put i y).len h = w.len h - (if 0 < h ∧ x.1 = h then 1 else 0) + (if 0 < h ∧ y.1 = h then 1 else 0) := by
  unfold Nw.len Nw.put
  by_cases h0 : 0 < h
  · simp only [if_pos h0, h0, true_and]
    have := countP_set_of (fun c : Ce => decide (c.1 = h)) w.cs i.toNat x y hx
    simp only [decide_eq_true_eq] at this
    split at this <;> split at this <;> simp_all <;> omega
  · simp only [if_neg h0, h0, false_and, if_false]; rfl

theorem cellsN_Put_spec {H : Hp} {c : Nat} {S : Nat → Prop} {st : Int} {w : Nw} (h : CellsN H c S st w) (g i k s : Int) :
    CallH Try.prog n_cells_Cells_Put [ptr c, i64 g, i64 i, ent k s] H fun v H' => Post (
      (¬ (w.has g ∧ (0 ≤ i ∧ i < w.cs.length) ∧ ¬ InC w.cs i) ∧ v = .bool false ∧ CellsN H' c S st w ∧ Ext S H H') ∨
      ((w.has g ∧ (0 ≤ i ∧ i < w.cs.length) ∧ ¬ InC w.cs i) ∧ v = .bool true ∧ CellsN H' c S st (w.put i (g, k, s)) ∧ Ext S H H')) := by
  obtain ⟨cs, len, rt, many, h1, h2⟩ := h
  have hcl : w.cs.length = cs.length := by rw [h2.cl, List.length_map]
  have hlen := w.len_le g
  have hcsl := h1.csl
  refine (cells_Put_spec h1 g i k s (by rw [h2.mn]; omega)).mono ?_
  rintro _ H1 (⟨e, rfl, g1, g2⟩ | ⟨e, rfl, g1, g2⟩)
  · exact .inl ⟨by rw [h2.hasW, h2.inC, hcl]; exact e, rfl, ⟨_, _, _, _, g1, h2⟩, g2⟩
  · refine .inr ⟨by rw [h2.hasW, h2.inC, hcl]; exact e, rfl, ⟨_, _, _, _, g1, ?_⟩, g2⟩
    obtain ⟨x, hx⟩ : ∃ x, cs[i.toNat]? = some x := ⟨_, List.getElem?_eq_getElem (by omega)⟩
    have hx0 : ¬ 0 < x.1 := fun hx0 => e.2.2 ⟨e.2.1.1, x, hx, hx0⟩
    have hwx := h2.get hx
    rw [if_neg hx0] at hwx
    refine ⟨h2.hl, h2.h0, h2.hh, ?_, fun y hy => ?_, fun j => ?_, h2.low, h2.idem, h2.nz⟩
    · show w.cs.set i.toNat _ = _
      rw [h2.cl, List.map_set]
      simp only [if_pos e.1.1, e.1.2.2]
      congr 3
      omega
    · rcases List.mem_or_eq_of_mem_set hy with hy | rfl
      · exact h2.lt y hy
      · exact ⟨by have := e.1.1; simp only; omega, e.1.2.1⟩
    · rw [Nw.len_put hwx]
      by_cases hj : j = g
      · subst hj
        have hg := e.1.1
        rw [if_neg (by rintro ⟨_, h⟩; omega), if_pos ⟨hg, rfl⟩, ← h2.mn]
        simp [many0]
      · rw [if_neg (by rintro ⟨_, h⟩; omega), if_neg (by rintro ⟨_, h⟩; exact hj h.symm), ← h2.mn]
        simp [many0, hj]

theorem cellsN_Home_spec {H : Hp} {c : Nat} {S : Nat → Prop} {st : Int} {w : Nw} (h : CellsN H c S st w) (i : Int) :
    CallH Try.prog n_cells_Cells_Home [ptr c, i64 i] H fun v H' => Post (
      (¬ InC w.cs i ∧ v = .tuple [i64 0, .bool false].toArray ∧ H = H') ∨
      (InC w.cs i ∧ ∃ x, w.cs[i.toNat]? = some x ∧ v = .tuple [i64 x.1, .bool true].toArray ∧ CellsN H' c S st w ∧ Ext S H H')) := by
  obtain ⟨cs, len, rt, many, h1, h2⟩ := h
  refine (cells_Home_spec h1 (fun x hx => (h2.lt x hx).2) i).mono ?_
  rintro _ H1 (⟨e, rfl, rfl⟩ | ⟨e, x, hx, rfl, g1, g2⟩)
  · exact .inl ⟨by rw [h2.inC]; exact e, rfl, rfl⟩
  · obtain ⟨e0, x', hx', hp⟩ := id e
    rw [hx] at hx'
    injection hx' with hx'
    subst hx'
    have hg := h2.get hx
    rw [if_pos hp] at hg
    exact .inr ⟨by rw [h2.inC]; exact e, _, hg, rfl, ⟨_, _, _, _, g1, h2⟩, g2⟩

theorem cellsN_Entry_spec {H : Hp} {c : Nat} {S : Nat → Prop} {st : Int} {w : Nw} (h : CellsN H c S st w) (i : Int) :
    CallH Try.prog n_cells_Cells_Entry [ptr c, i64 i] H fun v H' => Post (CellsN H' c S st w ∧ Fresh H H' ∧ (
      (¬ InC w.cs i ∧ v = .tuple [ent 0 0, .bool false].toArray) ∨
      (InC w.cs i ∧ ∃ x, w.cs[i.toNat]? = some x ∧ v = .tuple [ent x.2.1 x.2.2, .bool true].toArray))) := by
  obtain ⟨cs, len, rt, many, h1, h2⟩ := h
  refine (cells_Entry_spec h1 i).mono ?_
  rintro _ H1 ⟨g1, g2, ⟨e, rfl⟩ | ⟨e, x, hx, rfl⟩⟩
  · exact ⟨⟨_, _, _, _, g1, h2⟩, g2, .inl ⟨by rw [h2.inC]; exact e, rfl⟩⟩
  · exact ⟨⟨_, _, _, _, g1, h2⟩, g2, .inr ⟨by rw [h2.inC]; exact e, _, h2.get hx, rfl⟩⟩

theorem cellsN_Drop_spec {H : Hp} {c : Nat} {S : Nat → Prop} {st : Int} {w : Nw} (h : CellsN H c S st w) (i : Int) :
    CallH Try.prog n_cells_Cells_Drop [ptr c, i64 i] H fun v H' => Post (
      (¬ InC w.cs i ∧ v = .bool false ∧ H = H') ∨
      (InC w.cs i ∧ v = .bool true ∧ CellsN H' c S st (w.put i (0, 0, 0)) ∧ Ext S H H')) := by
  obtain ⟨cs, len, rt, many, h1, h2⟩ := h
  have hcsl := h1.csl
  have hcl : w.cs.length = cs.length := by rw [h2.cl, List.length_map]
  refine (cells_Drop_spec h1 (fun x hx => (h2.lt x hx).2) i (fun j => by rw [h2.mn]; have := w.len_le j; omega)).mono ?_
  rintro _ H1 (⟨e, rfl, rfl⟩ | ⟨e, rfl, x, hx, g1, g2⟩)
  · exact .inl ⟨by rw [h2.inC]; exact e, rfl, rfl⟩
  · obtain ⟨e0, x', hx', hp⟩ := id e
    rw [hx] at hx'
    injection hx' with hx'
    subst hx'
    have hg := h2.get hx
    rw [if_pos hp] at hg
    have hlt := h2.lt x (List.mem_of_getElem? hx)
    have hnz : rt x.1.toNat ≠ 0 := fun e => by have := h2.nz _ (by omega) e; omega
    refine .inr ⟨by rw [h2.inC]; exact e, rfl, ⟨_, _, _, _, g1, h2.hl, h2.h0, h2.hh, ?_, fun y hy => ?_, fun j => ?_, h2.low, h2.idem, h2.nz⟩, g2⟩
    · show w.cs.set i.toNat _ = _
      rw [h2.cl, List.map_set]
      rfl
    · rcases List.mem_or_eq_of_mem_set hy with hy | rfl
      · exact h2.lt y hy
      · exact ⟨by simp only; omega, by simp only; omega⟩
    · have hp := Nw.len_put (y := ((0 : Int), (0 : Int), (0 : Int))) hg j
      simp only at hp
      have hm := h2.mn j
      by_cases hj : j = rt x.1.toNat
      · subst hj
        rw [if_pos ⟨by omega, rfl⟩, if_neg (by rintro ⟨h1, h2⟩; omega)] at hp
        rw [hp, ← hm]
        split
        · rename_i hz
          simp only [many0] at hz
          simp only [many0, delM, if_true, Option.getD_none]
          omega
        · simp [many0, setM]
      · rw [if_neg (by rintro ⟨_, h⟩; exact hj h.symm), if_neg (by rintro ⟨h1, h2⟩; omega)] at hp
        rw [hp, ← hm]
        split
        · simp [many0, setM, delM, hj]
        · simp [many0, setM, hj]

theorem cellsN_Lower_spec {H : Hp} {c : Nat} {S : Nat → Prop} {st : Int} {w : Nw} (h : CellsN H c S st w) (i k s : Int) :
    CallH Try.prog n_cells_Cells_Lower [ptr c, i64 i, ent k s] H fun v H' => Post (
      (¬ (InC w.cs i ∧ ∀ x, w.cs[i.toNat]? = some x → ¬ lessE x.2.1 x.2.2 k s) ∧ v = .bool false ∧ CellsN H' c S st w ∧ Fresh H H') ∨
      (InC w.cs i ∧ v = .bool true ∧ ∃ x, w.cs[i.toNat]? = some x ∧ ¬ lessE x.2.1 x.2.2 k s ∧ CellsN H' c S st (w.put i (x.1, k, s)) ∧ Ext S H H')) := by
  obtain ⟨cs, len, rt, many, h1, h2⟩ := h
  refine (cells_Lower_spec h1 i k s).mono ?_
  rintro _ H1 (⟨e, rfl, g1, g2⟩ | ⟨e, rfl, x, hx, hl, g1, g2⟩)
  · refine .inl ⟨fun hc => e ⟨(h2.inC i).1 hc.1, fun x hx => ?_⟩, rfl, ⟨_, _, _, _, g1, h2⟩, g2⟩
    have := hc.2 _ (h2.get hx)
    exact this
  · have hg := h2.get hx
    refine .inr ⟨(h2.inC i).2 e, rfl, _, hg, hl, ⟨_, _, _, _, g1, h2.hl, h2.h0, h2.hh, ?_, fun y hy => ?_, fun j => ?_, h2.low, h2.idem, h2.nz⟩, g2⟩
    · show w.cs.set i.toNat _ = _
      rw [h2.cl, List.map_set]
    · rcases List.mem_or_eq_of_mem_set hy with hy | rfl
      · exact h2.lt y hy
      · exact h2.lt x (List.mem_of_getElem? hx)
    · rw [Nw.len_put hg, ← h2.mn]
      simp only
      split <;> omega

theorem countP_join (cs : List Ce) (a b h : Int) (hab : a ≠ b) : ((cs.map fun c => if c.1 = b then (a, c.2) else c).countP fun c => decide (c.1 = h)) =
    if h = a then (cs.countP fun c => decide (c.1 = a)) + (cs.countP fun c => decide (c.1 = b)) else if h = b then 0 else cs.countP fun c => decide (c.1 = h) := by
  induction cs with
  | nil => simp
  | cons c cs ih =>
    simp only [List.map_cons, List.countP_cons, ih]
    by_cases h1 : h = a
    · subst h1
      simp only [if_true]
      by_cases h2 : c.1 = b
      · simp [h2, Ne.symm hab]; omega
      · simp [h2]; omega
    · by_cases h3 : h = b
      · subst h3
        simp only [if_neg h1, if_true]
        by_cases h2 : c.1 = h
        · simp [h2, hab]
        · simp [h2]
      · simp only [if_neg h1, if_neg h3]
        by_cases h2 : c.1 = b
        · simp [h2, Ne.symm h1, Ne.symm h3]
        · simp [h2]

theorem cellsN_Join_spec {H : Hp} {c : Nat} {S : Nat → Prop} {st : Int} {w : Nw} (h : CellsN H c S st w) (a b : Int) :
    CallH Try.prog n_cells_Cells_Join [ptr c, i64 a, i64 b] H fun v H' => Post (
      (¬ (w.has a ∧ w.has b ∧ a ≠ b) ∧ v = .bool false ∧ H = H') ∨
      ((w.has a ∧ w.has b ∧ a ≠ b) ∧ v = .bool true ∧ CellsN H' c S st (w.join a b) ∧ Ext S H H')) := by
  obtain ⟨cs, len, rt, many, h1, h2⟩ := h
  have hcsl := h1.csl
  have hcl : w.cs.length = cs.length := by rw [h2.cl, List.length_map]
  refine (cells_Join_spec h1 a b (fun j => by rw [h2.mn]; have := w.len_le j; omega)).mono ?_
  rintro _ H1 (⟨e, rfl, rfl⟩ | ⟨e, rfl, g1, g2⟩)
  · exact .inl ⟨by rw [h2.hasW, h2.hasW]; exact e, rfl, rfl⟩
  · obtain ⟨⟨a1, a2, a3⟩, ⟨b1, b2, b3⟩, hab⟩ := e
    have hbl := h2.hl
    refine .inr ⟨⟨(h2.hasW a).2 ⟨a1, a2, a3⟩, (h2.hasW b).2 ⟨b1, b2, b3⟩, hab⟩, rfl, ⟨_, _, _, _, g1, by simp [Nw.join, hbl], ?_, fun h h1' h2' => ?_, ?_, h2.lt, fun j => ?_, fun i hi => ?_, fun i hi => ?_, fun i hi hz => ?_⟩, g2⟩
    · show (w.hs.set b.toNat false)[0]? = some false
      rw [List.getElem?_set_ne (by omega)]; exact h2.h0
    · show (w.hs.set b.toNat false)[h]? = _
      by_cases hb : h = b.toNat
      · subst hb
        rw [List.getElem?_set_self (by omega), if_pos b3, decide_eq_false (by omega)]
      · rw [List.getElem?_set_ne (Ne.symm hb), h2.hh h h1' h2']
        by_cases hr : rt h = b.toNat
        · rw [if_pos hr]
          have : a.toNat ≠ h := fun e => by rw [← e, a3] at hr; omega
          rw [decide_eq_false (fun e => hb (by rw [← e, hr])), decide_eq_false this]
        · rw [if_neg hr]
    · show (w.cs.map _) = _
      rw [h2.cl, List.map_map]
      apply List.map_congr_left
      intro x hx
      have := h2.lt x hx
      simp only [Function.comp_apply]
      by_cases h0 : 0 < x.1
      · simp only [if_pos h0]
        by_cases hr : rt x.1.toNat = b.toNat
        · rw [if_pos (by omega), if_pos hr]
          simp only [Prod.mk.injEq, and_true]
          omega
        · rw [if_neg (by omega), if_neg hr]
      · simp only [if_neg h0]
        rw [if_neg (by omega)]
    · have hcount : (w.join a b).len j = if j = a then w.len a + w.len b else if j = b then 0 else w.len j := by
        unfold Nw.len Nw.join
        simp only
        by_cases hj : 0 < j
        · rw [if_pos hj, countP_join w.cs a b j hab, if_pos a1, if_pos b1]
          by_cases h1 : j = a
          · simp [h1]
          · by_cases h3 : j = b
            · simp [h1, h3, Ne.symm hab]
            · simp [h1, h3, hj]
        · rw [if_neg hj, if_neg (by omega), if_neg (by omega), if_neg hj]
      rw [hcount]
      have ma := h2.mn a
      have mb := h2.mn b
      have mj := h2.mn j
      have lb := w.len_le b
      by_cases h1 : j = a
      · subst h1
        rw [if_pos rfl]
        split
        · simp only [many0, delM, setM, if_neg hab, if_true, Option.getD_some]
          simp only [many0] at ma mb
          omega
        · omega
      · rw [if_neg h1]
        by_cases h3 : j = b
        · subst h3
          rw [if_pos rfl]
          split
          · simp [many0, delM]
          · omega
        · rw [if_neg h3]
          split
          · rw [← mj]; simp [many0, delM, setM, h1, h3]
          · exact mj
    · split
      · omega
      · exact h2.low i hi
    · have := h2.low i hi
      by_cases hr : rt i = b.toNat
      · simp only [if_pos hr, a3]
        rw [if_neg (by omega)]
      · simp only [if_neg hr, h2.idem i hi, if_neg hr]
    · split at hz
      · omega
      · exact h2.nz i hi hz

theorem cellsN_Steps_spec {H : Hp} {c : Nat} {S : Nat → Prop} {st : Int} {w : Nw} (h : CellsN H c S st w) :
    CallH Try.prog n_gauge_Meter_Steps [ptr c] H fun v H' => Post (v = i64 st ∧ H = H') := by
  obtain ⟨cs, len, rt, many, h1, h2⟩ := h
  exact cells_Steps_spec h1

theorem cellsN_Ahead_spec {H : Hp} {c : Nat} {S : Nat → Prop} {st : Int} {w : Nw} (h : CellsN H c S st w) (a b : Int) :
    CallH Try.prog n_cells_Cells_Ahead [ptr c, i64 a, i64 b] H fun v H' => Post (v = .bool (w.ahead a b) ∧ CellsN H' c S (if InC w.cs a ∧ InC w.cs b then stepsI st 1 else st) w ∧ Ext S H H') := by
  obtain ⟨cs, len, rt, many, h1, h2⟩ := h
  refine (cells_Ahead_spec h1 a b).mono ?_
  rintro _ H1 (⟨e, rfl, rfl⟩ | ⟨e, x, y, hx, hy, rfl, g1, g2⟩)
  · have e' : ¬ (InC w.cs a ∧ InC w.cs b) := fun hc => e ⟨(h2.inC a).1 hc.1, (h2.inC b).1 hc.2⟩
    refine ⟨congrArg Value.bool ?_, by rw [if_neg e']; exact ⟨_, _, _, _, h1, h2⟩, Ext.refl _ _⟩
    unfold Nw.ahead
    by_cases ha : InC w.cs a
    · by_cases hb : InC w.cs b
      · exact absurd ⟨ha, hb⟩ e'
      · simp [hb]
    · simp [ha]
  · have ha := (h2.inC a).2 e.1
    have hb := (h2.inC b).2 e.2
    refine ⟨congrArg Value.bool ?_, by rw [if_pos ⟨ha, hb⟩]; exact ⟨_, _, _, _, g1, h2⟩, g2⟩
    unfold Nw.ahead
    rw [decide_eq_true ha, decide_eq_true hb, h2.get hx, h2.get hy]
    rfl

end Go.Proofs.Yteicchpglnamcaa
