/-
  DERIVED. GIVEN WITH THE SEED: THE CARDS: each row of YtapoboiofpmheaaDoorRows.lean that lists a variable, with what it lists TIED to the program's text (the seventh form; the later family's looks); each row that meets fmt, with fmt's text TOLD by the authors' own Lean function (tested against real Go, not proved from fmt's source: count such statements apart). THE CARD IS WHAT COUNTS. Prove the row's statement (the work); the ties are given (YtapoboiofpmheaaDoorTie.lean); close each card by the builder's one call (the guide's Derived/Test/ToyasCard.lean, 'card_holds'). Laid BY PROGRAM, IN A SANDBOX (cutbox-door.mjs). By AI agents, Wed Nov 11 2026. No macro, syntax, notation, axiom, sorry.
-/
import Derived.Test.YtapoboiofpmheaaDoorRows
import GoSem.ClaimSeven
namespace Go.Proofs.YtapoboiofpmheaaDoor
namespace Rows

/-- THE TIED CARD OF 'haycocklaw01.EntryReads'. -/
def entryReadsCard : Claim7 := { stood := { row := entryReadsRow, standIns := [], harness := (true, "bd47453fce5e62b6d7540d99b4d266e4f89a47921241dd59e755c70dc5c8e934"), looks := true }, kinds := [], alts := [], laidByText := true, laidKinds := [.data, .data, .data, .sentinel, .sentinel], laidTests := true, laidLooks := .later }
def EntryReadsCardSaid : Prop := Claim7.holds Tryd.pinned (.plain (OpenSpec.ofChange entryReadsSpec)) entryReadsCard

/-- THE TIED CARD OF 'haycocklaw01.EntryBack'. -/
def entryBackCard : Claim7 := { stood := { row := entryBackRow, standIns := [], harness := (true, "bd47453fce5e62b6d7540d99b4d266e4f89a47921241dd59e755c70dc5c8e934"), looks := true }, kinds := [], alts := [], laidByText := true, laidKinds := [.data, .data, .data, .sentinel, .sentinel], laidTests := true, laidLooks := .later }
def EntryBackCardSaid : Prop := Claim7.holds Tryd.pinned (.plain (OpenSpec.ofChange entryBackSpec)) entryBackCard

/-- THE TIED CARD OF 'haycocklaw18.RecordNames'. -/
def recordNamesCard : Claim7 := { stood := { row := recordNamesRow, standIns := [], harness := (true, "bd47453fce5e62b6d7540d99b4d266e4f89a47921241dd59e755c70dc5c8e934"), looks := true }, kinds := [], alts := [], laidByText := true, laidKinds := [.data, .data, .data, .data, .sentinel, .sentinel, .pinned], laidTests := true, laidLooks := .later }
def RecordNamesCardSaid : Prop := Claim7.holds Tryd.pinned (.plain (OpenSpec.ofChange recordNamesSpec)) recordNamesCard

/-- THE TIED CARD OF 'haycocklaw18.RecordTells'. -/
def recordTellsCard : Claim7 := { stood := { row := recordTellsRow, standIns := [], harness := (true, "bd47453fce5e62b6d7540d99b4d266e4f89a47921241dd59e755c70dc5c8e934"), looks := true }, kinds := [], alts := [], laidByText := true, laidKinds := [.data, .data, .data, .data, .sentinel, .sentinel, .pinned], laidTests := true, laidLooks := .later }
def RecordTellsCardSaid : Prop := Claim7.holds Tryd.pinned (.plain (OpenSpec.ofChange recordTellsSpec)) recordTellsCard

/-- THE TIED CARD OF 'haycocklaw18.RecordReads'. -/
def recordReadsCard : Claim7 := { stood := { row := recordReadsRow, standIns := [], harness := (true, "bd47453fce5e62b6d7540d99b4d266e4f89a47921241dd59e755c70dc5c8e934"), looks := true }, kinds := [], alts := [], laidByText := true, laidKinds := [.data, .data, .data, .data, .sentinel, .sentinel, .pinned], laidTests := true, laidLooks := .later }
def RecordReadsCardSaid : Prop := Claim7.holds Tryd.pinned (.plain (OpenSpec.ofChange recordReadsSpec)) recordReadsCard

/-- THE TIED CARD OF 'haycocklaw18.RecordLines'. -/
def recordLinesCard : Claim7 := { stood := { row := recordLinesRow, standIns := [], harness := (true, "bd47453fce5e62b6d7540d99b4d266e4f89a47921241dd59e755c70dc5c8e934"), looks := true }, kinds := [], alts := [], laidByText := true, laidKinds := [.data, .data, .data, .data, .sentinel, .sentinel, .pinned], laidTests := true, laidLooks := .later }
def RecordLinesCardSaid : Prop := Claim7.holds Tryd.pinned (.plain (OpenSpec.ofChange recordLinesSpec)) recordLinesCard

/-- THE TIED CARD OF 'haycocklaw18.RecordBytes'. -/
def recordBytesCard : Claim7 := { stood := { row := recordBytesRow, standIns := [], harness := (true, "bd47453fce5e62b6d7540d99b4d266e4f89a47921241dd59e755c70dc5c8e934"), looks := true }, kinds := [], alts := [], laidByText := true, laidKinds := [.data, .data, .data, .data, .sentinel, .sentinel, .pinned], laidTests := true, laidLooks := .later }
def RecordBytesCardSaid : Prop := Claim7.holds Tryd.pinned (.plain (OpenSpec.ofChange recordBytesSpec)) recordBytesCard

/-- THE TIED CARD OF 'haycocklaw18.RecordBack'. -/
def recordBackCard : Claim7 := { stood := { row := recordBackRow, standIns := [], harness := (true, "bd47453fce5e62b6d7540d99b4d266e4f89a47921241dd59e755c70dc5c8e934"), looks := true }, kinds := [], alts := [], laidByText := true, laidKinds := [.data, .data, .data, .data, .sentinel, .sentinel, .pinned], laidTests := true, laidLooks := .later }
def RecordBackCardSaid : Prop := Claim7.holds Tryd.pinned (.plain (OpenSpec.ofChange recordBackSpec)) recordBackCard

/-- THE SECOND FORM's CARD OF 'haycocklaw01.EntryReads'. -/
def entryReadsUptoCard : Claim7 := { stood := { row := entryReadsUptoRow, standIns := [], harness := (true, "bd47453fce5e62b6d7540d99b4d266e4f89a47921241dd59e755c70dc5c8e934"), looks := true }, kinds := [], alts := [], laidByText := true, laidKinds := [.data, .data, .data, .sentinel, .sentinel], laidTests := true, laidLooks := .later }
def EntryReadsUptoCardSaid : Prop := Claim7.holds Tryd.pinned (.plain (OpenSpec.upto entryReadsSpec)) entryReadsUptoCard

/-- THE SECOND FORM's CARD OF 'haycocklaw01.EntryBack'. -/
def entryBackUptoCard : Claim7 := { stood := { row := entryBackUptoRow, standIns := [], harness := (true, "bd47453fce5e62b6d7540d99b4d266e4f89a47921241dd59e755c70dc5c8e934"), looks := true }, kinds := [], alts := [], laidByText := true, laidKinds := [.data, .data, .data, .sentinel, .sentinel], laidTests := true, laidLooks := .later }
def EntryBackUptoCardSaid : Prop := Claim7.holds Tryd.pinned (.plain (OpenSpec.upto entryBackSpec)) entryBackUptoCard

/-- THE SECOND FORM's CARD OF 'haycocklaw18.RecordNames'. -/
def recordNamesUptoCard : Claim7 := { stood := { row := recordNamesUptoRow, standIns := [], harness := (true, "bd47453fce5e62b6d7540d99b4d266e4f89a47921241dd59e755c70dc5c8e934"), looks := true }, kinds := [], alts := [], laidByText := true, laidKinds := [.data, .data, .data, .data, .sentinel, .sentinel, .pinned], laidTests := true, laidLooks := .later }
def RecordNamesUptoCardSaid : Prop := Claim7.holds Tryd.pinned (.plain (OpenSpec.upto recordNamesSpec)) recordNamesUptoCard

/-- THE SECOND FORM's CARD OF 'haycocklaw18.RecordTells'. -/
def recordTellsUptoCard : Claim7 := { stood := { row := recordTellsUptoRow, standIns := [], harness := (true, "bd47453fce5e62b6d7540d99b4d266e4f89a47921241dd59e755c70dc5c8e934"), looks := true }, kinds := [], alts := [], laidByText := true, laidKinds := [.data, .data, .data, .data, .sentinel, .sentinel, .pinned], laidTests := true, laidLooks := .later }
def RecordTellsUptoCardSaid : Prop := Claim7.holds Tryd.pinned (.plain (OpenSpec.upto recordTellsSpec)) recordTellsUptoCard

/-- THE SECOND FORM's CARD OF 'haycocklaw18.RecordReads'. -/
def recordReadsUptoCard : Claim7 := { stood := { row := recordReadsUptoRow, standIns := [], harness := (true, "bd47453fce5e62b6d7540d99b4d266e4f89a47921241dd59e755c70dc5c8e934"), looks := true }, kinds := [], alts := [], laidByText := true, laidKinds := [.data, .data, .data, .data, .sentinel, .sentinel, .pinned], laidTests := true, laidLooks := .later }
def RecordReadsUptoCardSaid : Prop := Claim7.holds Tryd.pinned (.plain (OpenSpec.upto recordReadsSpec)) recordReadsUptoCard

/-- THE SECOND FORM's CARD OF 'haycocklaw18.RecordLines'. -/
def recordLinesUptoCard : Claim7 := { stood := { row := recordLinesUptoRow, standIns := [], harness := (true, "bd47453fce5e62b6d7540d99b4d266e4f89a47921241dd59e755c70dc5c8e934"), looks := true }, kinds := [], alts := [], laidByText := true, laidKinds := [.data, .data, .data, .data, .sentinel, .sentinel, .pinned], laidTests := true, laidLooks := .later }
def RecordLinesUptoCardSaid : Prop := Claim7.holds Tryd.pinned (.plain (OpenSpec.upto recordLinesSpec)) recordLinesUptoCard

/-- THE SECOND FORM's CARD OF 'haycocklaw18.RecordBytes'. -/
def recordBytesUptoCard : Claim7 := { stood := { row := recordBytesUptoRow, standIns := [], harness := (true, "bd47453fce5e62b6d7540d99b4d266e4f89a47921241dd59e755c70dc5c8e934"), looks := true }, kinds := [], alts := [], laidByText := true, laidKinds := [.data, .data, .data, .data, .sentinel, .sentinel, .pinned], laidTests := true, laidLooks := .later }
def RecordBytesUptoCardSaid : Prop := Claim7.holds Tryd.pinned (.plain (OpenSpec.upto recordBytesSpec)) recordBytesUptoCard

/-- THE SECOND FORM's CARD OF 'haycocklaw18.RecordBack'. -/
def recordBackUptoCard : Claim7 := { stood := { row := recordBackUptoRow, standIns := [], harness := (true, "bd47453fce5e62b6d7540d99b4d266e4f89a47921241dd59e755c70dc5c8e934"), looks := true }, kinds := [], alts := [], laidByText := true, laidKinds := [.data, .data, .data, .data, .sentinel, .sentinel, .pinned], laidTests := true, laidLooks := .later }
def RecordBackUptoCardSaid : Prop := Claim7.holds Tryd.pinned (.plain (OpenSpec.upto recordBackSpec)) recordBackUptoCard
end Rows
end Go.Proofs.YtapoboiofpmheaaDoor
