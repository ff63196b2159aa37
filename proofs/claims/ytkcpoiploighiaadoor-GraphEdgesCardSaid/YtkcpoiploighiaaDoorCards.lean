/-
  DERIVED. GIVEN WITH THE SEED: THE CARDS: each row of YtkcpoiploighiaaDoorRows.lean that lists a variable, with what it lists TIED to the program's text (the seventh form; the later family's looks); each row that meets fmt, with fmt's text TOLD by the authors' own Lean function (tested against real Go, not proved from fmt's source: count such statements apart). THE CARD IS WHAT COUNTS. Prove the row's statement (the work); the ties are given (YtkcpoiploighiaaDoorTie.lean); close each card by the builder's one call (the guide's Derived/Test/ToyasCard.lean, 'card_holds'). Laid BY PROGRAM, IN A SANDBOX (cutbox-door.mjs). By AI agents, Wed Nov 11 2026. No macro, syntax, notation, axiom, sorry.
-/
import Derived.Test.YtkcpoiploighiaaDoorRows
import GoSem.ClaimSeven
namespace Go.Proofs.YtkcpoiploighiaaDoor
namespace Rows

/-- THE TIED CARD OF 'haycocklaw21.GraphSums'. -/
def graphSumsCard : Claim7 := { stood := { row := graphSumsRow, standIns := [], harness := (true, "51a4148c06d25af3603941815be2d12f3a309caa33e6e05135174a7978b4a2dd"), looks := true }, kinds := [], alts := [], laidByText := true, laidKinds := [.data, .data, .data, .data, .sentinel, .sentinel, .pinned], laidTests := true, laidLooks := .later }
def GraphSumsCardSaid : Prop := Claim7.holds Tryd.pinned (.plain (OpenSpec.ofChange graphSumsSpec)) graphSumsCard

/-- THE TIED CARD OF 'haycocklaw21.GraphChecks'. -/
def graphChecksCard : Claim7 := { stood := { row := graphChecksRow, standIns := [], harness := (true, "51a4148c06d25af3603941815be2d12f3a309caa33e6e05135174a7978b4a2dd"), looks := true }, kinds := [], alts := [], laidByText := true, laidKinds := [.data, .data, .data, .data, .sentinel, .sentinel, .pinned], laidTests := true, laidLooks := .later }
def GraphChecksCardSaid : Prop := Claim7.holds Tryd.pinned (.plain (OpenSpec.ofChange graphChecksSpec)) graphChecksCard

/-- THE TIED CARD OF 'haycocklaw21.GraphTexts'. -/
def graphTextsCard : Claim7 := { stood := { row := graphTextsRow, standIns := [], harness := (true, "51a4148c06d25af3603941815be2d12f3a309caa33e6e05135174a7978b4a2dd"), looks := true }, kinds := [], alts := [], laidByText := true, laidKinds := [.data, .data, .data, .data, .sentinel, .sentinel, .pinned], laidTests := true, laidLooks := .later }
def GraphTextsCardSaid : Prop := Claim7.holds Tryd.pinned (.plain (OpenSpec.ofChange graphTextsSpec)) graphTextsCard

/-- THE TIED CARD OF 'haycocklaw21.GraphBack'. -/
def graphBackCard : Claim7 := { stood := { row := graphBackRow, standIns := [], harness := (true, "51a4148c06d25af3603941815be2d12f3a309caa33e6e05135174a7978b4a2dd"), looks := true }, kinds := [], alts := [], laidByText := true, laidKinds := [.data, .data, .data, .data, .sentinel, .sentinel, .pinned], laidTests := true, laidLooks := .later }
def GraphBackCardSaid : Prop := Claim7.holds Tryd.pinned (.plain (OpenSpec.ofChange graphBackSpec)) graphBackCard

/-- THE TIED CARD OF 'haycocklaw21.GraphEdges'. -/
def graphEdgesCard : Claim7 := { stood := { row := graphEdgesRow, standIns := [], harness := (true, "51a4148c06d25af3603941815be2d12f3a309caa33e6e05135174a7978b4a2dd"), looks := true }, kinds := [], alts := [], laidByText := true, laidKinds := [.data, .data, .data, .data, .sentinel, .sentinel, .pinned], laidTests := true, laidLooks := .later }
def GraphEdgesCardSaid : Prop := Claim7.holds Tryd.pinned (.plain (OpenSpec.ofChange graphEdgesSpec)) graphEdgesCard

/-- THE SECOND FORM's CARD OF 'haycocklaw21.GraphSums'. -/
def graphSumsUptoCard : Claim7 := { stood := { row := graphSumsUptoRow, standIns := [], harness := (true, "51a4148c06d25af3603941815be2d12f3a309caa33e6e05135174a7978b4a2dd"), looks := true }, kinds := [], alts := [], laidByText := true, laidKinds := [.data, .data, .data, .data, .sentinel, .sentinel, .pinned], laidTests := true, laidLooks := .later }
def GraphSumsUptoCardSaid : Prop := Claim7.holds Tryd.pinned (.plain (OpenSpec.upto graphSumsSpec)) graphSumsUptoCard

/-- THE SECOND FORM's CARD OF 'haycocklaw21.GraphChecks'. -/
def graphChecksUptoCard : Claim7 := { stood := { row := graphChecksUptoRow, standIns := [], harness := (true, "51a4148c06d25af3603941815be2d12f3a309caa33e6e05135174a7978b4a2dd"), looks := true }, kinds := [], alts := [], laidByText := true, laidKinds := [.data, .data, .data, .data, .sentinel, .sentinel, .pinned], laidTests := true, laidLooks := .later }
def GraphChecksUptoCardSaid : Prop := Claim7.holds Tryd.pinned (.plain (OpenSpec.upto graphChecksSpec)) graphChecksUptoCard

/-- THE SECOND FORM's CARD OF 'haycocklaw21.GraphTexts'. -/
def graphTextsUptoCard : Claim7 := { stood := { row := graphTextsUptoRow, standIns := [], harness := (true, "51a4148c06d25af3603941815be2d12f3a309caa33e6e05135174a7978b4a2dd"), looks := true }, kinds := [], alts := [], laidByText := true, laidKinds := [.data, .data, .data, .data, .sentinel, .sentinel, .pinned], laidTests := true, laidLooks := .later }
def GraphTextsUptoCardSaid : Prop := Claim7.holds Tryd.pinned (.plain (OpenSpec.upto graphTextsSpec)) graphTextsUptoCard

/-- THE SECOND FORM's CARD OF 'haycocklaw21.GraphBack'. -/
def graphBackUptoCard : Claim7 := { stood := { row := graphBackUptoRow, standIns := [], harness := (true, "51a4148c06d25af3603941815be2d12f3a309caa33e6e05135174a7978b4a2dd"), looks := true }, kinds := [], alts := [], laidByText := true, laidKinds := [.data, .data, .data, .data, .sentinel, .sentinel, .pinned], laidTests := true, laidLooks := .later }
def GraphBackUptoCardSaid : Prop := Claim7.holds Tryd.pinned (.plain (OpenSpec.upto graphBackSpec)) graphBackUptoCard

/-- THE SECOND FORM's CARD OF 'haycocklaw21.GraphEdges'. -/
def graphEdgesUptoCard : Claim7 := { stood := { row := graphEdgesUptoRow, standIns := [], harness := (true, "51a4148c06d25af3603941815be2d12f3a309caa33e6e05135174a7978b4a2dd"), looks := true }, kinds := [], alts := [], laidByText := true, laidKinds := [.data, .data, .data, .data, .sentinel, .sentinel, .pinned], laidTests := true, laidLooks := .later }
def GraphEdgesUptoCardSaid : Prop := Claim7.holds Tryd.pinned (.plain (OpenSpec.upto graphEdgesSpec)) graphEdgesUptoCard
end Rows
end Go.Proofs.YtkcpoiploighiaaDoor
