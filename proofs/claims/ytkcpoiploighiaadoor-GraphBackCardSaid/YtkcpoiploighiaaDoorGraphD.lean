/-
  What a text is read as, told alike of a graph and of none.
-/
import Derived.Test.YtkcpoiploighiaaDoorGraphQ
set_option linter.unusedVariables false
set_option linter.unusedSimpArgs false
namespace Go.Proofs.YtkcpoiploighiaaDoor
open Go Go.Vc

def gN (p : Option (Int × List Ed) × Nat) : Int := (p.1.map (·.1)).getD 0
def gE (p : Option (Int × List Ed) × Nat) : List Ed := (p.1.map (·.2)).getD []

theorem GrD.all {H H' : Hp} {p : Option (Int × List Ed) × Nat} {v : Value} (h : GrD H H' p v) : ∃ (a : Option Addr) (c : Nat) (fp : Option Nat), v = .tuple [.agg [i64 (gN p), .slice a (gE p).length c].toArray, i64 p.2].toArray ∧
    Sl H' 3 (.slice a (gE p).length c) (gE p).length (flatE (gE p)) fp ∧ (∀ b, fp = some b → H.size ≤ b) ∧ (gE p).length ≤ 65536 := by
  rcases h with ⟨n, es, s, fp, rfl, h0, h1, h2, h3, rfl, h5, h6⟩ | ⟨k, rfl, h1, rfl⟩
  · obtain ⟨a, c, rfl, _⟩ := slv_val h5
    exact ⟨a, c, fp, rfl, h5, h6, h2⟩
  · exact ⟨none, 0, none, rfl, Sl.nil _ _, (by intro b h; cases h), by simp [gE]⟩

end Go.Proofs.YtkcpoiploighiaaDoor
