/-
  Plain law: graphs, and their texts.
-/
import Derived.Test.YtkcpoiploighiaaDoorPieces
import Derived.Test.YtkcpoiploighiaaDoorDecs
set_option linter.unusedVariables false
set_option linter.unusedSimpArgs false
namespace Go.Proofs.YtkcpoiploighiaaDoor
open Go

/-- The number that a text is, if it is one. -/
def numO (l : List UInt8) : Option Int := match Lib.parseIntB 64 l with | .ok n => if Lib.itoa n = l then some n else none | _ => none
theorem numO_itoa {n : Int} (h0 : -9223372036854775808 ≤ n) (h1 : n ≤ 9223372036854775807) : numO (Lib.itoa n) = some n := by
  unfold numO
  rw [parse_itoa h0 h1]
  simp
theorem numO_some {l : List UInt8} {n : Int} (h : numO l = some n) : -9223372036854775808 ≤ n ∧ n ≤ 9223372036854775807 ∧ l = Lib.itoa n := by
  unfold numO at h
  split at h
  · rename_i m hm
    split at h
    · rename_i he
      injection h with h
      subst h
      obtain ⟨h0, h1⟩ := parseI_le hm
      exact ⟨h0, h1, he.symm⟩
    · cases h
  · cases h
theorem numO_none {l : List UInt8} (h : ∀ n : Int, -9223372036854775808 ≤ n → n ≤ 9223372036854775807 → l ≠ Lib.itoa n) : numO l = none := by
  cases hn : numO l with
  | none => rfl
  | some n =>
    obtain ⟨h0, h1, h2⟩ := numO_some hn
    exact absurd h2 (h n h0 h1)

/-- All of them, if each is one. -/
def numsL : List (List UInt8) → Option (List Int)
  | [] => some []
  | x :: r => match numO x with
    | none => none
    | some n => match numsL r with
      | none => none
      | some l => some (n :: l)
theorem numsL_itoa : ∀ l : List Int, (∀ n ∈ l, -9223372036854775808 ≤ n ∧ n ≤ 9223372036854775807) → numsL (l.map Lib.itoa) = some l := by
  intro l
  induction l with
  | nil => intro _; rfl
  | cons n l ih =>
    intro h
    obtain ⟨h0, h1⟩ := h n (List.mem_cons_self ..)
    rw [List.map_cons, numsL, numO_itoa h0 h1, ih fun x hx => h x (List.mem_cons_of_mem _ hx)]
theorem numsL_len : ∀ (ws : List (List UInt8)) (l : List Int), numsL ws = some l → l.length = ws.length := by
  intro ws
  induction ws with
  | nil => intro l h; simp only [numsL, Option.some.injEq] at h; subst h; rfl
  | cons x r ih =>
    intro l h
    rw [numsL] at h
    cases hx : numO x with
    | none => rw [hx] at h; cases h
    | some n =>
      rw [hx] at h
      cases hr : numsL r with
      | none => rw [hr] at h; cases h
      | some l' =>
        rw [hr] at h
        injection h with h
        subst h
        simp [ih l' hr]
theorem numsL_range : ∀ (ws : List (List UInt8)) (l : List Int), numsL ws = some l → ∀ n ∈ l, -9223372036854775808 ≤ n ∧ n ≤ 9223372036854775807 := by
  intro ws
  induction ws with
  | nil => intro l h; simp only [numsL, Option.some.injEq] at h; subst h; intro n hn; cases hn
  | cons x r ih =>
    intro l h
    rw [numsL] at h
    cases hx : numO x with
    | none => rw [hx] at h; cases h
    | some n =>
      rw [hx] at h
      cases hr : numsL r with
      | none => rw [hr] at h; cases h
      | some l' =>
        rw [hr] at h
        injection h with h
        subst h
        intro m hm
        rcases List.mem_cons.1 hm with rfl | hm
        · obtain ⟨h0, h1, _⟩ := numO_some hx; exact ⟨h0, h1⟩
        · exact ih l' hr m hm
/-- Front to back. -/
theorem numsL_snoc (ws : List (List UInt8)) (x : List UInt8) : numsL (ws ++ [x]) = match numsL ws, numO x with | some l, some n => some (l ++ [n]) | _, _ => none := by
  induction ws with
  | nil => rw [List.nil_append, numsL, numsL]; cases numO x <;> rfl
  | cons y r ih =>
    rw [List.cons_append, numsL, numsL]
    cases numO y with
    | none => rfl
    | some m =>
      simp only
      rw [ih]
      cases numsL r with
      | none => rfl
      | some l => cases numO x <;> rfl
theorem numsL_bad : ∀ (ws : List (List UInt8)) (x : List UInt8), x ∈ ws → numO x = none → numsL ws = none := by
  intro ws
  induction ws with
  | nil => intro x h; cases h
  | cons y r ih =>
    intro x h hx
    rw [numsL]
    rcases List.mem_cons.1 h with rfl | h
    · rw [hx]
    · rw [ih x h hx]
      cases numO y <;> rfl

/-- The numbers behind a line's word. -/
def numsG (word : List UInt8) (many : Nat) (x : List UInt8) : Option (List Int) := if (pieces 32 x).headD [] = word ∧ (pieces 32 x).length = many + 1 then numsL (pieces 32 x).tail else none

abbrev wGraph : List UInt8 := [103, 114, 97, 112, 104]
abbrev wEdge : List UInt8 := [101, 100, 103, 101]

/-- An edge: from, to, weight. -/
structure Ed where
  f : Int
  t : Int
  w : Int
  deriving DecidableEq

/-- Edge lines: what comes of them. -/
def edgesL (n : Int) : Nat → List Ed → List (List UInt8 × Bool) → Option (List Ed) × Nat
  | _, acc, [] => (some acc, 0)
  | at_, acc, (x, whole) :: ls => match numsG wEdge 3 x with
    | some [a, b, c] => if whole = true ∧ acc.length < 65536 ∧ 0 ≤ a ∧ 0 ≤ b ∧ a < n ∧ b < n then edgesL n (at_ + 1) (acc ++ [⟨a, b, c⟩]) ls else (none, at_)
    | _ => (none, at_)
/-- A graph's lines: the graph and 0, or the number of the line that isn't so. -/
def parseL : List (List UInt8 × Bool) → Option (Int × List Ed) × Nat
  | [] => (none, 1)
  | (x, whole) :: ls => match numsG wGraph 1 x with
    | some [n] => if whole = true ∧ 0 ≤ n ∧ n ≤ 4096 then ((edgesL n 2 [] ls).1.map fun es => (n, es), (edgesL n 2 [] ls).2) else (none, 1)
    | _ => (none, 1)

/-- A text's lines, each with whether it ends. -/
def linesOf (s : List UInt8) : List (List UInt8 × Bool) := (pieces 10 s).dropLast.map (fun x => (x, true)) ++ (if (pieces 10 s).getLastD [] = [] then [] else [((pieces 10 s).getLastD [], false)])

theorem linesOf_nil : linesOf [] = [] := rfl
theorem linesOf_free {s : List UInt8} (h : (10 : UInt8) ∉ s) (h0 : s ≠ []) : linesOf s = [(s, false)] := by
  unfold linesOf
  rw [pieces_free s h]
  simp [h0]
theorem linesOf_at {a b : List UInt8} (h : (10 : UInt8) ∉ a) : linesOf (a ++ 10 :: b) = (a, true) :: linesOf b := by
  unfold linesOf
  rw [pieces_at a b h]
  have hne := pieces_ne 10 b
  cases hp : pieces 10 b with
  | nil => exact absurd hp hne
  | cons p r => simp

/-- A line's text. -/
def lineW (word : List UInt8) (l : List Int) : List UInt8 := word ++ (l.map fun n => 32 :: Lib.itoa n).flatten
def textE3 (e : Ed) : List UInt8 := lineW wEdge [e.f, e.t, e.w] ++ [10]
def textG (n : Int) (es : List Ed) : List UInt8 := lineW wGraph [n] ++ [10] ++ (es.map textE3).flatten

theorem no_itoa' {c : UInt8} (h : ¬ (48 ≤ c.toNat ∧ c.toNat ≤ 57)) (h2 : c ≠ 45) (n : Int) : c ∉ Lib.itoa n := by
  have no_dec : ∀ u, c ∉ Lib.decDigits u := fun u hm => h ((dec_facts u).1.dig c hm)
  unfold Lib.itoa
  split
  · intro hm
    rcases List.mem_cons.1 hm with hm | hm
    · exact h2 hm
    · exact no_dec _ hm
  · exact no_dec _

theorem line_free {word : List UInt8} (h : (10 : UInt8) ∉ word) (l : List Int) : (10 : UInt8) ∉ lineW word l := by
  unfold lineW
  intro hm
  rcases List.mem_append.1 hm with hm | hm
  · exact h hm
  · obtain ⟨y, hy, hm⟩ := List.mem_flatten.1 hm
    obtain ⟨n, _, rfl⟩ := List.mem_map.1 hy
    rcases List.mem_cons.1 hm with hm | hm
    · exact absurd hm (by decide)
    · exact no_itoa' (by decide) (by decide) n hm

theorem line_pieces : ∀ (l : List Int) (word : List UInt8), (32 : UInt8) ∉ word → pieces 32 (lineW word l) = word :: l.map Lib.itoa := by
  intro l
  induction l with
  | nil => intro word h; unfold lineW; simp [pieces_free word h]
  | cons n l ih =>
    intro word h
    have e : lineW word (n :: l) = word ++ 32 :: lineW (Lib.itoa n) l := by unfold lineW; simp
    rw [e, pieces_at _ _ h, ih _ (no_itoa' (by decide) (by decide) n)]
    rfl

theorem numsG_line {word : List UInt8} (h : (32 : UInt8) ∉ word) (l : List Int) (hl : ∀ n ∈ l, -9223372036854775808 ≤ n ∧ n ≤ 9223372036854775807) : numsG word l.length (lineW word l) = some l := by
  unfold numsG
  rw [line_pieces l word h]
  simp only [List.headD_cons, List.length_cons, List.length_map, List.tail_cons]
  rw [if_pos ⟨trivial, trivial⟩]
  exact numsL_itoa l hl

/-- A graph that can be. -/
structure RightG (n : Int) (es : List Ed) : Prop where
  n0 : 0 ≤ n
  n1 : n ≤ 4096
  len : es.length ≤ 65536
  ends : ∀ e ∈ es, 0 ≤ e.f ∧ e.f < n ∧ 0 ≤ e.t ∧ e.t < n

theorem lines_edges : ∀ es : List Ed, linesOf (es.map textE3).flatten = es.map fun e => (lineW wEdge [e.f, e.t, e.w], true) := by
  intro es
  induction es with
  | nil => exact linesOf_nil
  | cons e es ih =>
    rw [List.map_cons, List.flatten_cons]
    have : textE3 e ++ (es.map textE3).flatten = lineW wEdge [e.f, e.t, e.w] ++ 10 :: (es.map textE3).flatten := by unfold textE3; simp
    rw [this, linesOf_at (line_free (by decide) _), ih]
    rfl

theorem edges_back {n : Int} : ∀ (es : List Ed) (at_ : Nat) (acc : List Ed), acc.length + es.length ≤ 65536 → n ≤ 4096 → (∀ e ∈ es, 0 ≤ e.f ∧ e.f < n ∧ 0 ≤ e.t ∧ e.t < n) → (∀ e ∈ es, -9223372036854775808 ≤ e.w ∧ e.w ≤ 9223372036854775807) →
    edgesL n at_ acc (es.map fun e => (lineW wEdge [e.f, e.t, e.w], true)) = (some (acc ++ es), 0) := by
  intro es
  induction es with
  | nil => intro at_ acc _ _ _ _; simp [edgesL]
  | cons e es ih =>
    intro at_ acc hl hn he hw
    obtain ⟨e0, e1, e2, e3⟩ := he e (List.mem_cons_self ..)
    obtain ⟨w0, w1⟩ := hw e (List.mem_cons_self ..)
    rw [List.length_cons] at hl
    have hg := numsG_line (word := wEdge) (by decide) [e.f, e.t, e.w] (by
      intro x hx
      simp only [List.mem_cons, List.not_mem_nil, or_false] at hx
      rcases hx with rfl | rfl | rfl <;> omega)
    simp only [List.length_cons, List.length_nil] at hg
    rw [List.map_cons, edgesL, hg]
    simp only
    rw [if_pos ⟨trivial, by omega, e0, e2, e1, e3⟩, ih _ _ (by rw [List.length_append]; simp; omega) hn (fun x hx => he x (List.mem_cons_of_mem _ hx)) (fun x hx => hw x (List.mem_cons_of_mem _ hx)), List.append_assoc]
    rfl

/-- A graph comes back from its text. -/
theorem parse_text {n : Int} {es : List Ed} (h : RightG n es) (hw : ∀ e ∈ es, -9223372036854775808 ≤ e.w ∧ e.w ≤ 9223372036854775807) : parseL (linesOf (textG n es)) = (some (n, es), 0) := by
  have e : textG n es = lineW wGraph [n] ++ 10 :: (es.map textE3).flatten := by unfold textG; simp
  obtain ⟨h0, h1, h2, h3⟩ := h
  have hg := numsG_line (word := wGraph) (by decide) [n] (by
    intro x hx
    rw [List.mem_singleton] at hx
    omega)
  simp only [List.length_cons, List.length_nil] at hg
  rw [e, linesOf_at (line_free (by decide) _), lines_edges, parseL, hg]
  simp only
  rw [if_pos ⟨trivial, h0, h1⟩, edges_back es 2 [] (by simpa using h2) h1 h3 hw]
  rfl

end Go.Proofs.YtkcpoiploighiaaDoor
