/-
  CodePacks: for every input the law returns true, and each argument reads afterwards as it read before.
  No condition beyond the row's own.
-/
import Derived.Test.YtbnaicgmnadkgaaK15
import Derived.Test.YtbnaicgmnadkgaaK18
import Derived.Test.YtbnaicgmnadkgaaRows
import Derived.WalkKit
import Derived.ProofKit
import Derived.OpenShut
namespace Go.Proofs.Ytbnaicgmnadkgaa.codePacks
open Go Go.Vc Go.ChangeShapes Go.WideShapes Go.ChangeAt Go.RowKit
set_option linter.unusedVariables false

theorem own : ownKnob Try.prog.godebug = none := by kernel_rfl
theorem laidOut : laidOutB Try.prog = true := by kernel_rfl

/-- The parameters' shapes. -/
def shapes : List (Bool × List Pc) := [(false, [.k .s]), (false, [.sl [.i .u8]])]

theorem walk (args : List Value) (Hh : Hp) (h : fitL (fitA Hh) shapes args) : CallH Try.prog 8 args Hh fun v H' => Post (v = .bool true ∧ Fresh Hh H') := by
  obtain ⟨v0, r0, rfl, h0, v1, r1, rfl, h1, rfl⟩ := h
  exact law27_CodePacks_args h0 h1

set_option maxRecDepth 100000 in
theorem lifted (os : Os) (started : os.Started) (H : Type) (enc : TypeId × Value → H) :
    ReturnsInHanded {} Try.checked os 8 .any (Rows.codePacksSpec.pre6 enc Try.prog Try.f8 Rows.codePacksRow.domain false) (Rows.codePacksSpec.post enc Try.prog Try.f8 false true false false) := by
  refine returnsInHanded_of_change (C := Try.checked) own started (by kernel_rfl) Try.func8
    (ChangeSpec.witness6 (enc := enc) (C := Try.checked) false ⟨#[], #[.string ⟨#[]⟩, .slice none 0 0], []⟩ 8 (by kernel_rfl) (by kernel_rfl) (by kernel_rfl) (by kernel_rfl)) ?_
  intro W base args ds gs before hval hW _ _
  exact law_contract (C := Try.checked) (shs := shapes) (tb := 4) (by kernel_rfl) rfl (fun ds h => by match ds, h with | [_, _], _ => rfl) rfl (by kernel_rfl) laidOut (by kernel_rfl) walk hval hW

theorem over : Rows.codePacksRow.holds Try.pinned (OpenSpec.ofChange Rows.codePacksSpec) :=
  OpenClaim.holds_of_wide 8 Try.f8 rfl rfl rfl rfl rfl rfl rfl ⟨rfl, rfl, rfl, rfl, rfl⟩ rfl rfl rfl rfl rfl (by kernel_rfl) Try.func8 (by kernel_rfl)
    (of_decide_eq_true (by kernel_rfl)) (by unfold Func.isWrapper; first | (rw [if_pos (by decide +kernel)]; kernel_rfl) | (rw [if_neg (by decide +kernel)]; exact ⟨rfl, rfl⟩))
    (fun os started H enc _ => lifted os started H enc)

/-- The statement. -/
theorem proved : Rows.CodePacksSaid :=
  over
#print axioms proved
end Go.Proofs.Ytbnaicgmnadkgaa.codePacks
