import Derived.Test.YtjlnnljohemifaaGreatK19
import Derived.Test.YtjlnnljohemifaaGreatK25
import Derived.Test.YtjlnnljohemifaaGreatRows
import Derived.WalkKit
import Derived.ProofKit
import Derived.OpenShut
namespace Go.Proofs.YtjlnnljohemifaaGreat.lengthsCosts
open Go Go.Vc Go.ChangeShapes Go.WideShapes Go.ChangeAt Go.RowKit
theorem own : ownKnob Tryz.prog.godebug = none := by kernel_rfl
theorem laidOut : laidOutB Tryz.prog = true := by kernel_rfl
def shapes : List (Bool × List Vc.Pc) := [(false, [.sl [.i .i64]]), (false, [.sl [.i .i64]])]
theorem walk (args : List Value) (Hh : Hp) (h : fitL (fitA Hh) shapes args) : CallH Tryz.prog 5 args Hh fun v H' => Post (v = .bool true ∧ Fresh Hh H') := by
  obtain ⟨v0, r0, rfl, h0, v1, r1, rfl, h1, rfl⟩ := h
  exact law26_LengthsCosts_args h0 h1
set_option maxRecDepth 100000 in
theorem lifted (os : Os) (started : os.Started) (H : Type) (enc : TypeId × Value → H) :
    ReturnsInHanded {} Tryz.checked os 5 .any (Rows.lengthsCostsSpec.pre6 enc Tryz.prog Tryz.f5 Rows.lengthsCostsRow.domain false) (Rows.lengthsCostsSpec.post enc Tryz.prog Tryz.f5 false true false false) := by
  refine returnsInHanded_of_change (C := Tryz.checked) own started (by kernel_rfl) Tryz.func5
    (ChangeSpec.witness6 (enc := enc) (C := Tryz.checked) false ⟨#[], #[.slice none 0 0, .slice none 0 0], []⟩ 8 (by kernel_rfl) (by kernel_rfl) (by kernel_rfl) (by kernel_rfl)) ?_
  intro W base args ds gs before hval hW _ _
  exact law_contract (C := Tryz.checked) (shs := shapes) (tb := 4) (by kernel_rfl) rfl (fun ds h => by match ds, h with | [_, _], _ => rfl) rfl (by kernel_rfl) laidOut (by kernel_rfl) walk hval hW
theorem fact0 : (Rows.lengthsCostsRow.wf (OpenSpec.ofChange Rows.lengthsCostsSpec)) = true := by kernel_rfl
theorem fact1 : (laidOutB Tryz.prog) = true := by kernel_rfl
theorem fact2 : (mapsRowed Tryz.prog) = true := by kernel_rfl
theorem fact3 : (Tryz.f5.params.all (Tryz.prog.readableRec ·)) = true := by kernel_rfl
theorem fact4 : (namedTie Tryz.prog Rows.lengthsCostsRow.named Rows.lengthsCostsSpec.vars) = true := by kernel_rfl
theorem fact5 : ((Rows.lengthsCostsRow.stops == [])) = true := by kernel_rfl
theorem fact6 : ((Tryz.prog.stops == [])) = true := by kernel_rfl
theorem fact7 : ((Rows.lengthsCostsRow.knobs == [])) = true := by kernel_rfl
theorem fact8 : ((Tryz.prog.stopKnobs == [])) = true := by kernel_rfl
theorem fact9 : ((Rows.lengthsCostsRow.inPlace == Tryz.prog.inPlace 5)) = true := by kernel_rfl
theorem fact10 : ((Rows.lengthsCostsRow.unfollowed == Tryz.prog.unfollowed 5)) = true := by kernel_rfl
theorem fact11 : ((Rows.lengthsCostsRow.recurses == Tryz.prog.recurses 5)) = true := by kernel_rfl
theorem fact12 : ((Rows.lengthsCostsRow.named == Tryz.prog.varsNamed 5)) = true := by kernel_rfl
theorem fact13 : ((Rows.lengthsCostsRow.maps == (Tryz.f5.params.toList ++ Rows.lengthsCostsSpec.plain.varTypes Tryz.prog).any (Tryz.prog.mapsRec ·))) = true := by kernel_rfl
theorem fact14 : ((Rows.lengthsCostsRow.ifaces == (Tryz.f5.params.toList ++ Rows.lengthsCostsSpec.plain.varTypes Tryz.prog).any (Tryz.prog.ifacesRec ·))) = true := by kernel_rfl
theorem fact15 : ((Rows.lengthsCostsRow.mapsOut == Tryz.prog.mapsAmong Tryz.f5.resultTypes.toList)) = true := by kernel_rfl
theorem fact16 : ((Rows.lengthsCostsRow.loops == (Tryz.f5.params.toList ++ Rows.lengthsCostsSpec.plain.varTypes Tryz.prog).any (Tryz.prog.loopsFrom ·))) = true := by kernel_rfl
theorem fact17 : ((Rows.lengthsCostsRow.wideKeys == (Tryz.f5.params.toList ++ Rows.lengthsCostsSpec.plain.varTypes Tryz.prog ++ Tryz.f5.resultTypes.toList).any (Tryz.prog.wideKeysFrom ·))) = true := by kernel_rfl
theorem fact18 : (Rows.lengthsCostsSpec.vars.all (Tryz.prog.varReadable ·)) = true := by kernel_rfl
theorem fact19 : (Tryz.f5.resultTypes.all (fun t => Tryz.prog.readableRec t && decide (t < Tryz.prog.types.size))) = true := by kernel_rfl
theorem fact20 : ((Rows.lengthsCostsRow.ifacesOut == Tryz.f5.resultTypes.toList.any (Tryz.prog.ifacesRec ·))) = true := by kernel_rfl
theorem fact21 : ((Rows.lengthsCostsRow.loopsOut == Tryz.f5.resultTypes.toList.any (Tryz.prog.loopsFrom ·))) = true := by kernel_rfl
theorem fact22 : ((Rows.lengthsCostsRow.plainKeys == Tryz.prog.plainKeys)) = true := by kernel_rfl
theorem fact23 : (Rows.lengthsCostsRow.shortTexts.isNone) = true := by kernel_rfl
theorem fact24 : (Tryz.prog.stopsHeard) = true := by kernel_rfl
theorem fact25 : (Tryz.prog.mayEnter) = true := by kernel_rfl
theorem fact26 : ((Rows.lengthsCostsRow.lifted == Tryz.prog.liftsFinal)) = true := by kernel_rfl
theorem fact27 : ((Tryz.prog.make == some Rows.lengthsCostsRow.make)) = true := by kernel_rfl
theorem fact28 : ((Rows.lengthsCostsRow.kinds == (if Rows.lengthsCostsRow.domain.isEmpty then [] else Tryz.f5.params.toList.map fun t => match Tryz.prog.underlying t with | some (.int k) => some k | _ => none))) = true := by kernel_rfl
theorem fact29 : ((Rows.lengthsCostsRow.pinned == Rows.lengthsCostsRow.pinnedBy)) = true := by kernel_rfl
theorem fact30 : ((Rows.lengthsCostsRow.veiled == (Tryz.f5.params.toList ++ Rows.lengthsCostsSpec.plain.varTypes Tryz.prog ++ Tryz.f5.resultTypes.toList).any (Tryz.prog.veiledRec ·))) = true := by kernel_rfl
theorem fact31 : (Rows.lengthsCostsRow.veiledFits Tryz.prog Tryz.f5.params.toList (Tryz.f5.params.toList ++ Rows.lengthsCostsSpec.plain.varTypes Tryz.prog ++ Tryz.f5.resultTypes.toList)) = true := by kernel_rfl
theorem a2 {a b : Bool} (h1 : a = true) (h2 : b = true) : (a && b) = true := by rw [h1, h2]; rfl
set_option maxRecDepth 100000 in
theorem closed : joinedFacts Tryz.prog 5 Tryz.f5 Rows.lengthsCostsSpec Rows.lengthsCostsRow = true := by
  unfold joinedFacts
  exact a2 (a2 (a2 (a2 (a2 (a2 (a2 (a2 (a2 (a2 (a2 (a2 (a2 (a2 (a2 (a2 (a2 (a2 (a2 (a2 (a2 (a2 (a2 (a2 (a2 (a2 (a2 (a2 (a2 (a2 (a2 fact0 fact1) fact2) fact3) fact4) fact5) fact6) fact7) fact8) fact9) fact10) fact11) fact12) fact13) fact14) fact15) fact16) fact17) fact18) fact19) fact20) fact21) fact22) fact23) fact24) fact25) fact26) fact27) fact28) fact29) fact30) fact31
theorem over : Rows.lengthsCostsRow.holds Tryz.pinned (OpenSpec.ofChange Rows.lengthsCostsSpec) :=
  OpenClaim.holds_of_wide 5 Tryz.f5 rfl rfl rfl rfl rfl rfl rfl ⟨rfl, rfl, rfl, rfl, rfl⟩ rfl rfl rfl rfl rfl (by kernel_rfl) Tryz.func5 closed
    (of_decide_eq_true (by kernel_rfl)) (by unfold Func.isWrapper; first | (rw [if_pos (by decide +kernel)]; kernel_rfl) | (rw [if_neg (by decide +kernel)]; exact ⟨rfl, rfl⟩))
    (fun os started H enc _ => lifted os started H enc)
theorem proved : Rows.LengthsCostsSaid :=
  over
#print axioms proved
end Go.Proofs.YtjlnnljohemifaaGreat.lengthsCosts
