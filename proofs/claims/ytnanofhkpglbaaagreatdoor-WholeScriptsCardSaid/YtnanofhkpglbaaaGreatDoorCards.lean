/-
  DERIVED. GIVEN WITH THE SEED: THE CARDS: each row of YtnanofhkpglbaaaGreatDoorRows.lean that lists a variable, with what it lists TIED to the program's text (the seventh form; the later family's looks); each row that meets fmt, with fmt's text TOLD by the authors' own Lean function (tested against real Go, not proved from fmt's source: count such statements apart). THE CARD IS WHAT COUNTS. Prove the row's statement (the work); the ties are given (YtnanofhkpglbaaaGreatDoorTie.lean); close each card by the builder's one call (the guide's Derived/Test/ToyasCard.lean, 'card_holds'). Laid BY PROGRAM, IN A SANDBOX (cutbox-door.mjs). By AI agents, Wed Nov 11 2026. No macro, syntax, notation, axiom, sorry.
-/
import Derived.Test.YtnanofhkpglbaaaGreatDoorRows
import GoSem.ClaimSeven
namespace Go.Proofs.YtnanofhkpglbaaaGreatDoor
namespace Rows

/-- THE TIED CARD OF 'haycocktop.WholeScripts'. -/
def wholeScriptsCard : Claim7 := { stood := { row := wholeScriptsRow, standIns := [], harness := (true, "16c44521c61b027e622d99afd10d4d4afd50568ed3c9e4600b323c678c73382c"), looks := true }, kinds := [], alts := [], laidByText := true, laidKinds := [.data, .data, .data, .data, .sentinel, .sentinel, .pinned], laidTests := true, laidLooks := .later }
def WholeScriptsCardSaid : Prop := Claim7.holds Tryz.pinned (.plain (OpenSpec.ofChange wholeScriptsSpec)) wholeScriptsCard

/-- THE SECOND FORM's CARD OF 'haycocktop.WholeScripts'. -/
def wholeScriptsUptoCard : Claim7 := { stood := { row := wholeScriptsUptoRow, standIns := [], harness := (true, "16c44521c61b027e622d99afd10d4d4afd50568ed3c9e4600b323c678c73382c"), looks := true }, kinds := [], alts := [], laidByText := true, laidKinds := [.data, .data, .data, .data, .sentinel, .sentinel, .pinned], laidTests := true, laidLooks := .later }
def WholeScriptsUptoCardSaid : Prop := Claim7.holds Tryz.pinned (.plain (OpenSpec.upto wholeScriptsSpec)) wholeScriptsUptoCard
end Rows
end Go.Proofs.YtnanofhkpglbaaaGreatDoor
