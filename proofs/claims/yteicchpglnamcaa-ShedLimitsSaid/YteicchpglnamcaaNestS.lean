/-
  Whatever has a nest's calls: what is asked of it, in the words of the document's nest.
-/
import Derived.Test.YteicchpglnamcaaLooks
import Derived.Test.YteicchpglnamcaaOrder05
set_option linter.unusedVariables false
set_option linter.unusedSimpArgs false
namespace Go.Proofs.Yteicchpglnamcaa
open Go Go.Vc

def Nw.canPut (w : Nw) (g x : Int) : Prop := w.has g ∧ (0 ≤ x ∧ x < w.cs.length) ∧ ¬ InC w.cs x
def Nw.canLower (w : Nw) (x k s : Int) : Prop := InC w.cs x ∧ ∀ y, w.cs[x.toNat]? = some y → ¬ lessE y.2.1 y.2.2 k s

/-- Behind a call: the nest is w', some steps were counted, at most m; of the blocks that were there only those of S may be others. -/
def Nx (I : Hp → (Nat → Prop) → Int → Nw → Prop) (S : Nat → Prop) (st : Int) (H H' : Hp) (w' : Nw) (m : Int) : Prop :=
  ∃ (q : Nat) (S' : Nat → Prop), (q : Int) ≤ m ∧ I H' S' (min (st + q) 4611686018427387904) w' ∧ Ext S H H' ∧ ∀ z, S' z → S z ∨ H.size ≤ z

structure NestS (ov : Value) (I : Hp → (Nat → Prop) → Int → Nw → Prop) (lim : Int → Int) (rows : Bool) : Prop where
  cells : ∀ {H S st w}, I H S st w → ∃ c C, CellsN H c C st w
  teller : ∀ S st w, TellerS ov (fun H => I H S st w) S w
  cap : ∀ {H S st w}, I H S st w → InvH Try.prog ov "Capacity" [] H fun v H' => v = i64 w.cs.length ∧ H = H'
  steps : ∀ {H S st w}, I H S st w → InvH Try.prog ov "Steps" [] H fun v H' => v = i64 st ∧ H = H'
  make : ∀ {H S st w}, I H S st w → InvH Try.prog ov "Make" [] H fun v H' =>
    (w.hs.length = 65537 ∧ v = i64 0 ∧ Nx I S st H H' w 0) ∨ (w.hs.length ≠ 65537 ∧ v = i64 w.hs.length ∧ Nx I S st H H' w.make 0)
  insert : ∀ {H S st w} (g x k s : Int), I H S st w → InvH Try.prog ov "Insert" [i64 g, i64 x, ent k s] H fun v H' =>
    (¬ w.canPut g x ∧ v = .bool false ∧ Nx I S st H H' w 0) ∨ (w.canPut g x ∧ v = .bool true ∧ Nx I S st H H' (w.put x (g, k, s)) (lim (w.len g + 1)))
  min : ∀ {H S st w} (g : Int), I H S st w → InvH Try.prog ov "Min" [i64 g] H fun v H' =>
    (w.len g = 0 ∧ v = .tuple [i64 0, .bool false].toArray ∧ Nx I S st H H' w (lim (w.len g + 1))) ∨ (∃ x, w.first g x ∧ v = .tuple [i64 x, .bool true].toArray ∧ Nx I S st H H' w (lim (w.len g + 1)))
  extract : ∀ {H S st w} (g : Int), I H S st w → InvH Try.prog ov "Extract" [i64 g] H fun v H' =>
    (w.len g = 0 ∧ v = .tuple [i64 0, .bool false].toArray ∧ Nx I S st H H' w (lim (w.len g + 1))) ∨ (∃ x, w.first g x ∧ v = .tuple [i64 x, .bool true].toArray ∧ Nx I S st H H' (w.put x (0, 0, 0)) (lim (w.len g + 1)))
  decrease : ∀ {H S st w} (x k s : Int), I H S st w → InvH Try.prog ov "Decrease" [i64 x, ent k s] H fun v H' =>
    (¬ w.canLower x k s ∧ v = .bool false ∧ Nx I S st H H' w 0) ∨ (w.canLower x k s ∧ v = .bool true ∧ ∃ y, w.cs[x.toNat]? = some y ∧ Nx I S st H H' (w.put x (y.1, k, s)) (lim (w.len y.1 + 1)))
  delete : ∀ {H S st w} (x : Int), I H S st w → InvH Try.prog ov "Delete" [i64 x] H fun v H' =>
    (¬ InC w.cs x ∧ v = .bool false ∧ Nx I S st H H' w 0) ∨ (InC w.cs x ∧ v = .bool true ∧ ∃ y, w.cs[x.toNat]? = some y ∧ Nx I S st H H' (w.put x (0, 0, 0)) (lim (w.len y.1 + 1)))
  meld : ∀ {H S st w} (a b : Int), I H S st w → InvH Try.prog ov "Meld" [i64 a, i64 b] H fun v H' =>
    (¬ (w.has a ∧ w.has b ∧ a ≠ b) ∧ v = .bool false ∧ Nx I S st H H' w 0) ∨
    ((w.has a ∧ w.has b ∧ a ≠ b) ∧ v = .bool true ∧ Nx I S st H H' (w.join a b) (lim (w.len a + w.len b + 1) * (bif rows then Min.min (w.len a) (w.len b) + 1 else 1)))
  lim0 : ∀ m, 0 ≤ lim m

end Go.Proofs.Yteicchpglnamcaa
