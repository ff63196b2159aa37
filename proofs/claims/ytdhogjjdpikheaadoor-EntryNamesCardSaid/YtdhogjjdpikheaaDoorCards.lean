/-
  DERIVED. GIVEN WITH THE SEED: THE CARDS: each row of YtdhogjjdpikheaaDoorRows.lean that lists a variable, with what it lists TIED to the program's text (the seventh form; the later family's looks); each row that meets fmt, with fmt's text TOLD by the authors' own Lean function (tested against real Go, not proved from fmt's source: count such statements apart). THE CARD IS WHAT COUNTS. Prove the row's statement (the work); the ties are given (YtdhogjjdpikheaaDoorTie.lean); close each card by the builder's one call (the guide's Derived/Test/ToyasCard.lean, 'card_holds'). Laid BY PROGRAM, IN A SANDBOX (cutbox-door.mjs). By AI agents, Wed Nov 11 2026. No macro, syntax, notation, axiom, sorry.
-/
import Derived.Test.YtdhogjjdpikheaaDoorRows
import GoSem.ClaimSeven
namespace Go.Proofs.YtdhogjjdpikheaaDoor
namespace Rows

/-- THE TIED CARD OF 'haycocklaw01.EntryTexts'. -/
def entryTextsCard : Claim7 := { stood := { row := entryTextsRow, standIns := [], harness := (true, "d14af686e948e2d87c81f3a2108d7147bcd59a0e23c04b4f9fef83f180a3a3ca"), looks := true }, kinds := [], alts := [], laidByText := true, laidKinds := [.data, .data, .data], laidTests := true, laidLooks := .later }
def EntryTextsCardSaid : Prop := Claim7.holds Tryd.pinned (.plain (OpenSpec.ofChange entryTextsSpec)) entryTextsCard

/-- THE TIED CARD OF 'haycocklaw01.EntryStrict'. -/
def entryStrictCard : Claim7 := { stood := { row := entryStrictRow, standIns := [], harness := (true, "d14af686e948e2d87c81f3a2108d7147bcd59a0e23c04b4f9fef83f180a3a3ca"), looks := true }, kinds := [], alts := [], laidByText := true, laidKinds := [.data, .data, .data], laidTests := true, laidLooks := .later }
def EntryStrictCardSaid : Prop := Claim7.holds Tryd.pinned (.plain (OpenSpec.ofChange entryStrictSpec)) entryStrictCard

/-- THE TIED CARD OF 'haycocklaw01.EntryOrders'. -/
def entryOrdersCard : Claim7 := { stood := { row := entryOrdersRow, standIns := [], harness := (true, "d14af686e948e2d87c81f3a2108d7147bcd59a0e23c04b4f9fef83f180a3a3ca"), looks := true }, kinds := [], alts := [], laidByText := true, laidKinds := [.data, .data, .data], laidTests := true, laidLooks := .later }
def EntryOrdersCardSaid : Prop := Claim7.holds Tryd.pinned (.plain (OpenSpec.ofChange entryOrdersSpec)) entryOrdersCard

/-- THE TIED CARD OF 'haycocklaw01.EntryNames'. -/
def entryNamesCard : Claim7 := { stood := { row := entryNamesRow, standIns := [], harness := (true, "d14af686e948e2d87c81f3a2108d7147bcd59a0e23c04b4f9fef83f180a3a3ca"), looks := true }, kinds := [], alts := [], laidByText := true, laidKinds := [.data, .data, .data, .sentinel, .sentinel], laidTests := true, laidLooks := .later }
def EntryNamesCardSaid : Prop := Claim7.holds Tryd.pinned (.plain (OpenSpec.ofChange entryNamesSpec)) entryNamesCard

/-- THE TIED CARD OF 'haycocklaw01.EntryReads'. -/
def entryReadsCard : Claim7 := { stood := { row := entryReadsRow, standIns := [], harness := (true, "d14af686e948e2d87c81f3a2108d7147bcd59a0e23c04b4f9fef83f180a3a3ca"), looks := true }, kinds := [], alts := [], laidByText := true, laidKinds := [.data, .data, .data, .sentinel, .sentinel], laidTests := true, laidLooks := .later }
def EntryReadsCardSaid : Prop := Claim7.holds Tryd.pinned (.plain (OpenSpec.ofChange entryReadsSpec)) entryReadsCard

/-- THE TIED CARD OF 'haycocklaw01.EntryBack'. -/
def entryBackCard : Claim7 := { stood := { row := entryBackRow, standIns := [], harness := (true, "d14af686e948e2d87c81f3a2108d7147bcd59a0e23c04b4f9fef83f180a3a3ca"), looks := true }, kinds := [], alts := [], laidByText := true, laidKinds := [.data, .data, .data, .sentinel, .sentinel], laidTests := true, laidLooks := .later }
def EntryBackCardSaid : Prop := Claim7.holds Tryd.pinned (.plain (OpenSpec.ofChange entryBackSpec)) entryBackCard

/-- THE SECOND FORM's CARD OF 'haycocklaw01.EntryTexts'. -/
def entryTextsUptoCard : Claim7 := { stood := { row := entryTextsUptoRow, standIns := [], harness := (true, "d14af686e948e2d87c81f3a2108d7147bcd59a0e23c04b4f9fef83f180a3a3ca"), looks := true }, kinds := [], alts := [], laidByText := true, laidKinds := [.data, .data, .data], laidTests := true, laidLooks := .later }
def EntryTextsUptoCardSaid : Prop := Claim7.holds Tryd.pinned (.plain (OpenSpec.upto entryTextsSpec)) entryTextsUptoCard

/-- THE SECOND FORM's CARD OF 'haycocklaw01.EntryStrict'. -/
def entryStrictUptoCard : Claim7 := { stood := { row := entryStrictUptoRow, standIns := [], harness := (true, "d14af686e948e2d87c81f3a2108d7147bcd59a0e23c04b4f9fef83f180a3a3ca"), looks := true }, kinds := [], alts := [], laidByText := true, laidKinds := [.data, .data, .data], laidTests := true, laidLooks := .later }
def EntryStrictUptoCardSaid : Prop := Claim7.holds Tryd.pinned (.plain (OpenSpec.upto entryStrictSpec)) entryStrictUptoCard

/-- THE SECOND FORM's CARD OF 'haycocklaw01.EntryOrders'. -/
def entryOrdersUptoCard : Claim7 := { stood := { row := entryOrdersUptoRow, standIns := [], harness := (true, "d14af686e948e2d87c81f3a2108d7147bcd59a0e23c04b4f9fef83f180a3a3ca"), looks := true }, kinds := [], alts := [], laidByText := true, laidKinds := [.data, .data, .data], laidTests := true, laidLooks := .later }
def EntryOrdersUptoCardSaid : Prop := Claim7.holds Tryd.pinned (.plain (OpenSpec.upto entryOrdersSpec)) entryOrdersUptoCard

/-- THE SECOND FORM's CARD OF 'haycocklaw01.EntryNames'. -/
def entryNamesUptoCard : Claim7 := { stood := { row := entryNamesUptoRow, standIns := [], harness := (true, "d14af686e948e2d87c81f3a2108d7147bcd59a0e23c04b4f9fef83f180a3a3ca"), looks := true }, kinds := [], alts := [], laidByText := true, laidKinds := [.data, .data, .data, .sentinel, .sentinel], laidTests := true, laidLooks := .later }
def EntryNamesUptoCardSaid : Prop := Claim7.holds Tryd.pinned (.plain (OpenSpec.upto entryNamesSpec)) entryNamesUptoCard

/-- THE SECOND FORM's CARD OF 'haycocklaw01.EntryReads'. -/
def entryReadsUptoCard : Claim7 := { stood := { row := entryReadsUptoRow, standIns := [], harness := (true, "d14af686e948e2d87c81f3a2108d7147bcd59a0e23c04b4f9fef83f180a3a3ca"), looks := true }, kinds := [], alts := [], laidByText := true, laidKinds := [.data, .data, .data, .sentinel, .sentinel], laidTests := true, laidLooks := .later }
def EntryReadsUptoCardSaid : Prop := Claim7.holds Tryd.pinned (.plain (OpenSpec.upto entryReadsSpec)) entryReadsUptoCard

/-- THE SECOND FORM's CARD OF 'haycocklaw01.EntryBack'. -/
def entryBackUptoCard : Claim7 := { stood := { row := entryBackUptoRow, standIns := [], harness := (true, "d14af686e948e2d87c81f3a2108d7147bcd59a0e23c04b4f9fef83f180a3a3ca"), looks := true }, kinds := [], alts := [], laidByText := true, laidKinds := [.data, .data, .data, .sentinel, .sentinel], laidTests := true, laidLooks := .later }
def EntryBackUptoCardSaid : Prop := Claim7.holds Tryd.pinned (.plain (OpenSpec.upto entryBackSpec)) entryBackUptoCard
end Rows
end Go.Proofs.YtdhogjjdpikheaaDoor
