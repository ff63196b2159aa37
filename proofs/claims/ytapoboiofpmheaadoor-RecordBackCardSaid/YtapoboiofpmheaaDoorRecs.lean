/-
  Plain law: records, and their lines.
-/
import Derived.Test.YtapoboiofpmheaaDoorPieces
import Derived.Test.YtapoboiofpmheaaDoorDecs
set_option linter.unusedVariables false
set_option linter.unusedSimpArgs false
namespace Go.Proofs.YtapoboiofpmheaaDoor
open Go

def wordOf : Nat → List UInt8
  | 0 => [98, 97, 100]
  | 1 => [110, 101, 119]
  | 2 => [105, 110, 115, 101, 114, 116]
  | 3 => [109, 105, 110]
  | 4 => [101, 120, 116, 114, 97, 99, 116]
  | 5 => [100, 101, 99, 114, 101, 97, 115, 101]
  | 6 => [100, 101, 108, 101, 116, 101]
  | 7 => [109, 101, 108, 100]
  | 8 => [108, 101, 110]
  | 9 => [107, 101, 121]
  | 10 => [104, 111, 109, 101]
  | _ => []
def heapsOf : Nat → Nat
  | 2 | 3 | 4 | 8 => 1
  | 7 => 2
  | _ => 0
def handleOf : Nat → Bool
  | 5 | 6 | 9 | 10 => true
  | _ => false
def keyOf : Nat → Bool
  | 2 | 5 => true
  | _ => false
def hasA (op : Nat) : Bool := decide (2 ≤ op)
def hasB (op : Nat) : Bool := handleOf op || heapsOf op == 2

theorem ops (op : Nat) (h : op ≤ 10) : op = 0 ∨ op = 1 ∨ op = 2 ∨ op = 3 ∨ op = 4 ∨ op = 5 ∨ op = 6 ∨ op = 7 ∨ op = 8 ∨ op = 9 ∨ op = 10 := by omega

/-- A record that can be. -/
structure RightR (op a b : Nat) (k : Int) : Prop where
  le : op ≤ 10
  la : a < 4294967296
  lb : b < 4294967296
  k0 : -9223372036854775808 ≤ k
  k1 : k ≤ 9223372036854775807
  na : hasA op = false → a = 0
  nb : hasB op = false → b = 0
  nk : keyOf op = false → k = 0

/-- A record's words. -/
def wordsR (op a b : Nat) (k : Int) : List (List UInt8) :=
  wordOf op :: ((if handleOf op then [Lib.decDigits a ++ 46 :: Lib.decDigits b] else if heapsOf op = 2 then [Lib.decDigits a, Lib.decDigits b] else if heapsOf op = 1 then [Lib.decDigits a] else []) ++ (if keyOf op then [Lib.itoa k] else []))

/-- A record's line. -/
def textR (op a b : Nat) (k : Int) : List UInt8 := Lib.join (wordsR op a b k) [32]

theorem no_dec {c : UInt8} (h : ¬ (48 ≤ c.toNat ∧ c.toNat ≤ 57)) (u : Nat) : c ∉ Lib.decDigits u := fun hm => h ((dec_facts u).1.dig c hm)
theorem no_itoa {c : UInt8} (h : ¬ (48 ≤ c.toNat ∧ c.toNat ≤ 57)) (h2 : c ≠ 45) (n : Int) : c ∉ Lib.itoa n := by
  unfold Lib.itoa
  split
  · intro hm
    rcases List.mem_cons.1 hm with hm | hm
    · exact h2 hm
    · exact no_dec h _ hm
  · exact no_dec h _

theorem words_free {op a b : Nat} {k : Int} (h : op ≤ 10) : ∀ w ∈ wordsR op a b k, (32 : UInt8) ∉ w := by
  have h1 : ∀ u, (32 : UInt8) ∉ Lib.decDigits u := no_dec (by decide)
  have h2 : (32 : UInt8) ∉ Lib.itoa k := no_itoa (by decide) (by decide) k
  have h3 : (32 : UInt8) ∉ Lib.decDigits a ++ 46 :: Lib.decDigits b := by
    intro hm
    rcases List.mem_append.1 hm with hm | hm
    · exact h1 _ hm
    · rcases List.mem_cons.1 hm with hm | hm
      · exact absurd hm (by decide)
      · exact h1 _ hm
  rcases ops op h with rfl | rfl | rfl | rfl | rfl | rfl | rfl | rfl | rfl | rfl | rfl <;> simp [wordsR, wordOf, heapsOf, handleOf, keyOf, h1, h2, h3] <;> decide

theorem pieces_text {op a b : Nat} {k : Int} (h : op ≤ 10) : pieces 32 (textR op a b k) = wordsR op a b k :=
  pieces_join 32 _ (by simp [wordsR]) (words_free h)

theorem word_inj {op op' : Nat} (h : op ≤ 10) (h' : op' ≤ 10) (e : wordOf op = wordOf op') : op = op' := by
  rcases ops op h with rfl | rfl | rfl | rfl | rfl | rfl | rfl | rfl | rfl | rfl | rfl <;> rcases ops op' h' with rfl | rfl | rfl | rfl | rfl | rfl | rfl | rfl | rfl | rfl | rfl <;> first | rfl | (exact absurd e (by decide))

/-- The number that a text is, or 0. -/
def numN (l : List UInt8) : Int := match Lib.parseIntB 64 l with | .ok n => if Lib.itoa n = l then n else 0 | _ => 0
def smallN (l : List UInt8) : Nat := (min (max (numN l) 0) 4294967295).toNat

theorem num_itoa {n : Int} (h0 : -9223372036854775808 ≤ n) (h1 : n ≤ 9223372036854775807) : numN (Lib.itoa n) = n := by
  unfold numN
  rw [parse_itoa h0 h1]
  simp
theorem num_none {l : List UInt8} (h : ∀ n : Int, -9223372036854775808 ≤ n → n ≤ 9223372036854775807 → l ≠ Lib.itoa n) : numN l = 0 := by
  unfold numN
  split
  · rename_i n hn
    obtain ⟨h0, h1⟩ := parseI_le hn
    rw [if_neg (fun e => h n h0 h1 e.symm)]
  · rfl
theorem small_dec {u : Nat} (h : u < 4294967296) : smallN (Lib.decDigits u) = u := by
  unfold smallN
  rw [show Lib.decDigits u = Lib.itoa (u : Int) from (Lib.itoa_nonneg u).symm, num_itoa (by omega) (by omega)]
  omega
theorem small_nil : smallN [] = 0 := by
  unfold smallN
  rw [num_none]
  · rfl
  · intro n _ _ h
    unfold Lib.itoa at h
    split at h
    · cases h
    · exact (dec_facts _).1.ne h.symm
theorem small_lt (l : List UInt8) : smallN l < 4294967296 := by unfold smallN; omega
theorem num_le (l : List UInt8) : -9223372036854775808 ≤ numN l ∧ numN l ≤ 9223372036854775807 := by
  unfold numN
  split
  · rename_i n hn
    split
    · exact parseI_le hn
    · omega
  · omega

/-- What the program takes a line's words to be, of an operation. -/
def lastW (ws : List (List UInt8)) : List UInt8 := ws.getLastD []
def takA (ws : List (List UInt8)) : Nat := if 1 < ws.length then smallN (Lib.cut (ws.getD 1 []) [46]).1 else 0
def takB (op : Nat) (ws : List (List UInt8)) : Nat := if heapsOf op = 2 then smallN (lastW ws) else if 1 < ws.length then smallN (Lib.cut (ws.getD 1 []) [46]).2.1 else 0
def takK (op : Nat) (ws : List (List UInt8)) : Int := if keyOf op then numN (lastW ws) else 0
def clA (op a : Nat) : Nat := if hasA op then a else 0
def clB (op b : Nat) : Nat := if hasB op then b else 0
def clK (op : Nat) (k : Int) : Int := if keyOf op then k else 0

theorem take_words {op a b : Nat} {k : Int} (h : RightR op a b k) : clA op (takA (wordsR op a b k)) = a ∧ clB op (takB op (wordsR op a b k)) = b ∧ clK op (takK op (wordsR op a b k)) = k := by
  obtain ⟨ho, ha, hb, h0, h1, na, nb, nk⟩ := h
  have c1 : Lib.cut (Lib.decDigits a ++ 46 :: Lib.decDigits b) [46] = (Lib.decDigits a, Lib.decDigits b, true) := cutc_at 46 _ _ (no_dec (by decide) a)
  have c2 : Lib.cut (Lib.decDigits a) [46] = (Lib.decDigits a, [], false) := cutc_none 46 _ (no_dec (by decide) a)
  rcases ops op ho with rfl | rfl | rfl | rfl | rfl | rfl | rfl | rfl | rfl | rfl | rfl <;>
    simp [clA, clB, clK, takA, takB, takK, lastW, wordsR, heapsOf, handleOf, keyOf, hasA, hasB, c1, c2, small_dec ha, small_dec hb, small_nil, num_itoa h0 h1] <;>
    simp [hasA, hasB, heapsOf, handleOf, keyOf] at na nb nk <;> omega

theorem text_inj {op a b op' a' b' : Nat} {k k' : Int} (h : RightR op a b k) (h' : RightR op' a' b' k') (e : textR op a b k = textR op' a' b' k') : op = op' ∧ a = a' ∧ b = b' ∧ k = k' := by
  have e2 := congrArg (pieces 32) e
  rw [pieces_text h.le, pieces_text h'.le] at e2
  have e3 : wordOf op = wordOf op' := by injection e2
  obtain rfl := word_inj h.le h'.le e3
  obtain ⟨h1, h2, h3⟩ := take_words h
  obtain ⟨g1, g2, g3⟩ := take_words h'
  rw [e2] at h1 h2 h3
  exact ⟨rfl, h1.symm.trans g1, h2.symm.trans g2, h3.symm.trans g3⟩

theorem join_le (c : UInt8) : ∀ (ws : List (List UInt8)) (n : Nat), (∀ w ∈ ws, w.length ≤ n) → (Lib.join ws [c]).length ≤ ws.length * (n + 1) := by
  intro ws n
  induction ws with
  | nil => intro _; simp [Lib.join_nil]
  | cons x r ih =>
    intro h
    have hx := h x (List.mem_cons_self ..)
    have hr := ih fun w hw => h w (List.mem_cons_of_mem _ hw)
    have e : (r.length + 1) * (n + 1) = r.length * (n + 1) + (n + 1) := Nat.succ_mul _ _
    cases r with
    | nil => rw [Lib.join_one]; simp; omega
    | cons y r =>
      rw [join_two, List.length_append, List.length_cons, List.length_cons (a := x), e]
      omega

/-- A record's values can be so. -/
structure RecOk (a b : Nat) (k : Int) : Prop where
  la : a < 4294967296
  lb : b < 4294967296
  k0 : -9223372036854775808 ≤ k
  k1 : k ≤ 9223372036854775807

end Go.Proofs.YtapoboiofpmheaaDoor
