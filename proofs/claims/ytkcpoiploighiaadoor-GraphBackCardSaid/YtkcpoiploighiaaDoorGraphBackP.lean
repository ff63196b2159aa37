/-
  GraphBack: for every input the law returns true, and each argument reads afterwards as it read before.
  The row's listed variables are tied to the program's text; no condition beyond the row's own.
-/
import Derived.Test.YtkcpoiploighiaaDoorCards
import Derived.Test.YtkcpoiploighiaaDoorTie
import Derived.WalkKit
import Derived.ProofKit
import Derived.OpenShut
import Derived.LaidMore
import Derived.Stop.Joined
import Derived.SevenTiedAt
import Derived.Test.YtkcpoiploighiaaDoorDoor3
import Derived.Lay
import Derived.Test.YtkcpoiploighiaaDoorGraphBack
namespace Go.Proofs.YtkcpoiploighiaaDoor.graphBack
open Go Go.Vc Go.ChangeShapes Go.WideShapes Go.ChangeAt Go.RowKit
set_option linter.unusedVariables false

theorem own : ownKnob Tryd.prog.godebug = none := by kernel_rfl
theorem laidOut : laidOutB Tryd.prog = true := by kernel_rfl

/-- The parameters' shapes. -/
def shapes : List (Bool × List Pc) := [(true, [.k (.i .i64), .sl [.i .i64, .i .i64, .i .i64]]), (false, [.sl [.i .i64]])]


theorem walk (args : List Value) (W : World) (hL : laidMetH Tryd.prog Rows.graphBackRow.laid W) (hsh : W.ShapedOpen Tryd.prog) (h : fitL (fitA W.heap) shapes args) : CallH Tryd.prog 6 args W.heap fun v H' => Post (v = .bool true ∧ Fresh W.heap H') := by
  rw [MakeChecks.laidMetH_plain _ _ _ (by kernel_rfl)] at hL
  obtain ⟨v0, r0, rfl, h0, v1, r1, rfl, h1, rfl⟩ := h
  exact law21_GraphBack_args (errs_of_laidP hL hsh) h0 h1

set_option maxRecDepth 100000 in
theorem lifted (os : Os) (started : os.Started) (H : Type) (enc : TypeId × Value → H) :
    ReturnsInHanded {} Tryd.checked os 6 .any (fun w args => (Rows.graphBackSpec.pre enc Tryd.prog Tryd.f6 [] false w args ∧ laidMetH Tryd.prog Rows.graphBackRow.laid w) ∧ sizedMet enc Tryd.prog Tryd.f6 (OpenSpec.ofChange Rows.graphBackSpec) false w args)
      (Rows.graphBackSpec.post enc Tryd.prog Tryd.f6 false true false false) := by
  refine returnsInHanded_and_shaped (C := Tryd.checked) (X := fun w _ => laidMetH Tryd.prog Rows.graphBackRow.laid w) (fun _ _ _ hh h => h.of_heap hh) own started (by kernel_rfl) Tryd.func6
    (ChangeSpec.witness_shaped (enc := enc) (C := Tryd.checked) (os := os) (X := fun w _ => laidMetH Tryd.prog Rows.graphBackRow.laid w) false (World.laidAll Tryd.prog os Rows.graphBackRow.laid) #[.agg #[.int .i64 0, .slice none 0 0], .slice none 0 0] 8 (World.laidAll_os _ _ _)
      (World.shaped_of_ZipB (by kernel_rfl) (by kernel_rfl)) (by kernel_rfl) (by kernel_rfl) (by kernel_rfl) (by rw [MakeChecks.laidMetH_plain _ _ _ (by kernel_rfl)]; exact laidMet_laidAll _ (by kernel_rfl) (by kernel_rfl))) ?_
  intro W base args ds gs before hval hW _ _ hL hsh _
  exact law_contract_at (C := Tryd.checked) (shs := shapes) (tb := 4) (by kernel_rfl) rfl (fun ds h => by match ds, h with | [_, _], _ => rfl) rfl (by kernel_rfl) laidOut (by kernel_rfl) hval hW (walk args.toList W hL hsh)

theorem over : Rows.graphBackRow.holds Tryd.pinned (OpenSpec.ofChange Rows.graphBackSpec) :=
  OpenClaim.holds_of_wide 6 Tryd.f6 rfl rfl rfl rfl rfl rfl rfl ⟨rfl, rfl, rfl, rfl, rfl⟩ rfl rfl rfl rfl rfl (by kernel_rfl) Tryd.func6 (by kernel_rfl)
    (of_decide_eq_true (by kernel_rfl)) (by unfold Func.isWrapper; first | (rw [if_pos (by decide +kernel)]; kernel_rfl) | (rw [if_neg (by decide +kernel)]; exact ⟨rfl, rfl⟩))
    (fun os started H enc _ => lifted os started H enc)

/-- The statement: the card. -/
theorem proved : Rows.GraphBackCardSaid :=
  Claim7.holds_tied_plain_at .later [] [.data, .data, .data, .data, .sentinel, .sentinel, .pinned] true (true, "51a4148c06d25af3603941815be2d12f3a309caa33e6e05135174a7978b4a2dd") true
    over (fun _ h => by cases h) (by kernel_rfl) (fun _ h => by cases h) graphBack_row_tie rfl ⟨rfl, rfl⟩ (by kernel_rfl) rfl
    (fun f fn hf hfn => by
      obtain rfl : f = 6 := Option.some.inj ((show Tryd.prog.funcNamed "haycock/haycocklaw21.GraphBack" = some 6 by kernel_rfl).symm.trans hf) |>.symm
      obtain rfl : fn = Tryd.f6 := (Option.some.inj (Tryd.func6.symm.trans hfn)).symm
      exact ⟨by kernel_rfl, fun j t ht => by
        rw [Tryd.params6] at ht
        rcases j with _ | _ | j
        · obtain rfl : t = 35 := by simpa using ht.symm
          exact (show Tryd.prog.wantsStandIn 35 = false by kernel_rfl)
        · obtain rfl : t = 22 := by simpa using ht.symm
          exact (show Tryd.prog.wantsStandIn 22 = false by kernel_rfl)
        · simp at ht⟩)
    (by kernel_rfl)
#print axioms proved
end Go.Proofs.YtkcpoiploighiaaDoor.graphBack
