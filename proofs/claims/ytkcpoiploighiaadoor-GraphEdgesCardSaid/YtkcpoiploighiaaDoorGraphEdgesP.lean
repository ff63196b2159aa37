/-
  GraphEdges: for every input the law returns true, and each argument reads afterwards as it read before.
  The row's listed variables are tied to the program's text; no condition beyond the row's own.
-/
import Derived.Test.YtkcpoiploighiaaDoorCards
import Derived.Test.YtkcpoiploighiaaDoorTie
import Derived.WalkKit
import Derived.ProofKit
import Derived.OpenShut
import Derived.LaidMore
import Derived.Stop.Joined
import Derived.SevenTiedAt
import Derived.Test.YtkcpoiploighiaaDoorDoor3
import Derived.Lay
import Derived.Test.YtkcpoiploighiaaDoorGraphEdges
namespace Go.Proofs.YtkcpoiploighiaaDoor.graphEdges
open Go Go.Vc Go.ChangeShapes Go.WideShapes Go.ChangeAt Go.RowKit
set_option linter.unusedVariables false

theorem own : ownKnob Tryd.prog.godebug = none := by kernel_rfl
theorem laidOut : laidOutB Tryd.prog = true := by kernel_rfl

/-- The parameters' shapes. -/
def shapes : List (Bool × List Pc) := [(true, [.k (.i .i64), .sl [.i .i64, .i .i64, .i .i64]])]


theorem walk (args : List Value) (W : World) (hL : laidMetH Tryd.prog Rows.graphEdgesRow.laid W) (hsh : W.ShapedOpen Tryd.prog) (h : fitL (fitA W.heap) shapes args) : CallH Tryd.prog 7 args W.heap fun v H' => Post (v = .bool true ∧ Fresh W.heap H') := by
  rw [MakeChecks.laidMetH_plain _ _ _ (by kernel_rfl)] at hL
  obtain ⟨v0, r0, rfl, h0, rfl⟩ := h
  exact law21_GraphEdges_args (errs_of_laidP hL hsh) h0

set_option maxRecDepth 100000 in
theorem lifted (os : Os) (started : os.Started) (H : Type) (enc : TypeId × Value → H) :
    ReturnsInHanded {} Tryd.checked os 7 .any (fun w args => (Rows.graphEdgesSpec.pre enc Tryd.prog Tryd.f7 [] false w args ∧ laidMetH Tryd.prog Rows.graphEdgesRow.laid w) ∧ sizedMet enc Tryd.prog Tryd.f7 (OpenSpec.ofChange Rows.graphEdgesSpec) false w args)
      (Rows.graphEdgesSpec.post enc Tryd.prog Tryd.f7 false true false false) := by
  refine returnsInHanded_and_shaped (C := Tryd.checked) (X := fun w _ => laidMetH Tryd.prog Rows.graphEdgesRow.laid w) (fun _ _ _ hh h => h.of_heap hh) own started (by kernel_rfl) Tryd.func7
    (ChangeSpec.witness_shaped (enc := enc) (C := Tryd.checked) (os := os) (X := fun w _ => laidMetH Tryd.prog Rows.graphEdgesRow.laid w) false (World.laidAll Tryd.prog os Rows.graphEdgesRow.laid) #[.agg #[.int .i64 0, .slice none 0 0]] 8 (World.laidAll_os _ _ _)
      (World.shaped_of_ZipB (by kernel_rfl) (by kernel_rfl)) (by kernel_rfl) (by kernel_rfl) (by kernel_rfl) (by rw [MakeChecks.laidMetH_plain _ _ _ (by kernel_rfl)]; exact laidMet_laidAll _ (by kernel_rfl) (by kernel_rfl))) ?_
  intro W base args ds gs before hval hW _ _ hL hsh _
  exact law_contract_at (C := Tryd.checked) (shs := shapes) (tb := 4) (by kernel_rfl) rfl (fun ds h => by match ds, h with | [_], _ => rfl) rfl (by kernel_rfl) laidOut (by kernel_rfl) hval hW (walk args.toList W hL hsh)

theorem over : Rows.graphEdgesRow.holds Tryd.pinned (OpenSpec.ofChange Rows.graphEdgesSpec) :=
  OpenClaim.holds_of_wide 7 Tryd.f7 rfl rfl rfl rfl rfl rfl rfl ⟨rfl, rfl, rfl, rfl, rfl⟩ rfl rfl rfl rfl rfl (by kernel_rfl) Tryd.func7 (by kernel_rfl)
    (of_decide_eq_true (by kernel_rfl)) (by unfold Func.isWrapper; first | (rw [if_pos (by decide +kernel)]; kernel_rfl) | (rw [if_neg (by decide +kernel)]; exact ⟨rfl, rfl⟩))
    (fun os started H enc _ => lifted os started H enc)

/-- The statement: the card. -/
theorem proved : Rows.GraphEdgesCardSaid :=
  Claim7.holds_tied_plain_at .later [] [.data, .data, .data, .data, .sentinel, .sentinel, .pinned] true (true, "51a4148c06d25af3603941815be2d12f3a309caa33e6e05135174a7978b4a2dd") true
    over (fun _ h => by cases h) (by kernel_rfl) (fun _ h => by cases h) graphEdges_row_tie rfl ⟨rfl, rfl⟩ (by kernel_rfl) rfl
    (fun f fn hf hfn => by
      obtain rfl : f = 7 := Option.some.inj ((show Tryd.prog.funcNamed "haycock/haycocklaw21.GraphEdges" = some 7 by kernel_rfl).symm.trans hf) |>.symm
      obtain rfl : fn = Tryd.f7 := (Option.some.inj (Tryd.func7.symm.trans hfn)).symm
      exact ⟨by kernel_rfl, fun j t ht => by
        rw [Tryd.params7] at ht
        rcases j with _ | j
        · obtain rfl : t = 35 := by simpa using ht.symm
          exact (show Tryd.prog.wantsStandIn 35 = false by kernel_rfl)
        · simp at ht⟩)
    (by kernel_rfl)
#print axioms proved
end Go.Proofs.YtkcpoiploighiaaDoor.graphEdges
