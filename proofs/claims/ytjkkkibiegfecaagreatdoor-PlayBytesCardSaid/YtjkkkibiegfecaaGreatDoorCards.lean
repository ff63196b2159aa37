/-
  DERIVED. GIVEN WITH THE SEED: THE CARDS: each row of YtjkkkibiegfecaaGreatDoorRows.lean that lists a variable, with what it lists TIED to the program's text (the seventh form; the later family's looks); each row that meets fmt, with fmt's text TOLD by the authors' own Lean function (tested against real Go, not proved from fmt's source: count such statements apart). THE CARD IS WHAT COUNTS. Prove the row's statement (the work); the ties are given (YtjkkkibiegfecaaGreatDoorTie.lean); close each card by the builder's one call (the guide's Derived/Test/ToyasCard.lean, 'card_holds'). Laid BY PROGRAM, IN A SANDBOX (cutbox-door.mjs). By AI agents, Wed Nov 11 2026. No macro, syntax, notation, axiom, sorry.
-/
import Derived.Test.YtjkkkibiegfecaaGreatDoorRows
import GoSem.ClaimSeven
namespace Go.Proofs.YtjkkkibiegfecaaGreatDoor
namespace Rows

/-- THE TIED CARD OF 'haycocklaw19.PlayScripts'. -/
def playScriptsCard : Claim7 := { stood := { row := playScriptsRow, standIns := [], harness := (true, "f168c620f95e308897a1e5646805e86aba7dc5416026d7d61109e452dc96a7e8"), looks := true }, kinds := [], alts := [], laidByText := true, laidKinds := [.data, .data, .data, .data, .sentinel, .sentinel, .pinned], laidTests := true, laidLooks := .later }
def PlayScriptsCardSaid : Prop := Claim7.holds Tryz.pinned (.plain (OpenSpec.ofChange playScriptsSpec)) playScriptsCard

/-- THE TIED CARD OF 'haycocklaw19.PlayAlike'. -/
def playAlikeCard : Claim7 := { stood := { row := playAlikeRow, standIns := [], harness := (true, "f168c620f95e308897a1e5646805e86aba7dc5416026d7d61109e452dc96a7e8"), looks := true }, kinds := [], alts := [], laidByText := true, laidKinds := [.data, .data, .data, .data, .sentinel, .sentinel, .pinned], laidTests := true, laidLooks := .later }
def PlayAlikeCardSaid : Prop := Claim7.holds Tryz.pinned (.plain (OpenSpec.ofChange playAlikeSpec)) playAlikeCard

/-- THE TIED CARD OF 'haycocklaw19.PlayRuns'. -/
def playRunsCard : Claim7 := { stood := { row := playRunsRow, standIns := [], harness := (true, "f168c620f95e308897a1e5646805e86aba7dc5416026d7d61109e452dc96a7e8"), looks := true }, kinds := [], alts := [], laidByText := true, laidKinds := [.data, .data, .data, .data, .sentinel, .sentinel, .pinned], laidTests := true, laidLooks := .later }
def PlayRunsCardSaid : Prop := Claim7.holds Tryz.pinned (.plain (OpenSpec.ofChange playRunsSpec)) playRunsCard

/-- THE TIED CARD OF 'haycocklaw19.PlayParts'. -/
def playPartsCard : Claim7 := { stood := { row := playPartsRow, standIns := [], harness := (true, "f168c620f95e308897a1e5646805e86aba7dc5416026d7d61109e452dc96a7e8"), looks := true }, kinds := [], alts := [], laidByText := true, laidKinds := [.data, .data, .data, .data, .sentinel, .sentinel, .pinned], laidTests := true, laidLooks := .later }
def PlayPartsCardSaid : Prop := Claim7.holds Tryz.pinned (.plain (OpenSpec.ofChange playPartsSpec)) playPartsCard

/-- THE TIED CARD OF 'haycocklaw19.PlayBytes'. -/
def playBytesCard : Claim7 := { stood := { row := playBytesRow, standIns := [], harness := (true, "f168c620f95e308897a1e5646805e86aba7dc5416026d7d61109e452dc96a7e8"), looks := true }, kinds := [], alts := [], laidByText := true, laidKinds := [.data, .data, .data, .data, .sentinel, .sentinel, .pinned], laidTests := true, laidLooks := .later }
def PlayBytesCardSaid : Prop := Claim7.holds Tryz.pinned (.plain (OpenSpec.ofChange playBytesSpec)) playBytesCard

/-- THE SECOND FORM's CARD OF 'haycocklaw19.PlayScripts'. -/
def playScriptsUptoCard : Claim7 := { stood := { row := playScriptsUptoRow, standIns := [], harness := (true, "f168c620f95e308897a1e5646805e86aba7dc5416026d7d61109e452dc96a7e8"), looks := true }, kinds := [], alts := [], laidByText := true, laidKinds := [.data, .data, .data, .data, .sentinel, .sentinel, .pinned], laidTests := true, laidLooks := .later }
def PlayScriptsUptoCardSaid : Prop := Claim7.holds Tryz.pinned (.plain (OpenSpec.upto playScriptsSpec)) playScriptsUptoCard

/-- THE SECOND FORM's CARD OF 'haycocklaw19.PlayAlike'. -/
def playAlikeUptoCard : Claim7 := { stood := { row := playAlikeUptoRow, standIns := [], harness := (true, "f168c620f95e308897a1e5646805e86aba7dc5416026d7d61109e452dc96a7e8"), looks := true }, kinds := [], alts := [], laidByText := true, laidKinds := [.data, .data, .data, .data, .sentinel, .sentinel, .pinned], laidTests := true, laidLooks := .later }
def PlayAlikeUptoCardSaid : Prop := Claim7.holds Tryz.pinned (.plain (OpenSpec.upto playAlikeSpec)) playAlikeUptoCard

/-- THE SECOND FORM's CARD OF 'haycocklaw19.PlayRuns'. -/
def playRunsUptoCard : Claim7 := { stood := { row := playRunsUptoRow, standIns := [], harness := (true, "f168c620f95e308897a1e5646805e86aba7dc5416026d7d61109e452dc96a7e8"), looks := true }, kinds := [], alts := [], laidByText := true, laidKinds := [.data, .data, .data, .data, .sentinel, .sentinel, .pinned], laidTests := true, laidLooks := .later }
def PlayRunsUptoCardSaid : Prop := Claim7.holds Tryz.pinned (.plain (OpenSpec.upto playRunsSpec)) playRunsUptoCard

/-- THE SECOND FORM's CARD OF 'haycocklaw19.PlayParts'. -/
def playPartsUptoCard : Claim7 := { stood := { row := playPartsUptoRow, standIns := [], harness := (true, "f168c620f95e308897a1e5646805e86aba7dc5416026d7d61109e452dc96a7e8"), looks := true }, kinds := [], alts := [], laidByText := true, laidKinds := [.data, .data, .data, .data, .sentinel, .sentinel, .pinned], laidTests := true, laidLooks := .later }
def PlayPartsUptoCardSaid : Prop := Claim7.holds Tryz.pinned (.plain (OpenSpec.upto playPartsSpec)) playPartsUptoCard

/-- THE SECOND FORM's CARD OF 'haycocklaw19.PlayBytes'. -/
def playBytesUptoCard : Claim7 := { stood := { row := playBytesUptoRow, standIns := [], harness := (true, "f168c620f95e308897a1e5646805e86aba7dc5416026d7d61109e452dc96a7e8"), looks := true }, kinds := [], alts := [], laidByText := true, laidKinds := [.data, .data, .data, .data, .sentinel, .sentinel, .pinned], laidTests := true, laidLooks := .later }
def PlayBytesUptoCardSaid : Prop := Claim7.holds Tryz.pinned (.plain (OpenSpec.upto playBytesSpec)) playBytesUptoCard
end Rows
end Go.Proofs.YtjkkkibiegfecaaGreatDoor
