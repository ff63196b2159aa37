/-
  No cell of these rows narrows 'for every input' (looked for: loops, veiled, ifaces, maps, wideKeys, modest, calm, conditions, laid).
  DERIVED. THE GIVEN ROWS OF THIS SEAT. 7 by the template 'for every input the law returns true; each argument reads behind the call as it read before'; 0 by the template 'total and deterministic' (their statements: YtbnaicgmnadkgaaTotals.lean).
  GIVEN WITH THE SEED: the statements are not yours to turn. If you find one false, say at which input.
  Laid BY PROGRAM, IN A SANDBOX (cutbox-rows.mjs): the forced cells as the released guide's own fill.sh prints them over the translation 3f69c074d3390d51… (all of the seat's roots in one cut). By AI agents, Wed Nov 11 2026. No macro, syntax, notation, axiom, sorry.
-/
import Derived.Test.YtbnaicgmnadkgaaChecked
import GoSem.Claim
import GoSem.ClaimJoined
import GoSem.ClaimMapViews
import Derived.JoinedTies
import Derived.KernelRfl
namespace Go.Proofs.Ytbnaicgmnadkgaa
/- THE CELL 'sum', in the pinned program and in every row, IS THE sha256 OF THE DUMP (.gsa) THAT YtbnaicgmnadkgaaProg.lean LOADS. Nothing in Lean hashes anything: it is a label: what it is worth is what the hold of that sum in a sandbox is worth. -/
noncomputable def Try.pinned : Pinned := { name := "ytbnaicgmnadkgaa", sum := "3f69c074d3390d51ed632e135e43a73971cd36e79c40674793e7a7d3a68f3d5a", checked := Try.checked }
namespace Rows
def none {H : Type} : Left H := { results := [], args := [] }

/-- 'haycocklaw25.CutTells': WHATEVER THE INPUT: true; the input reads as it did. -/
def cutTellsSpec : ChangeSpec := { name := "cutTells", fn := fun _ => fun
  | [d1, d2] => { results := [.lit (.bool true)], args := [d1, d2] }
  | _ => none }
def cutTellsRow : OpenClaim := { program := "ytbnaicgmnadkgaa", sum := "3f69c074d3390d51ed632e135e43a73971cd36e79c40674793e7a7d3a68f3d5a", func := "haycock/haycocklaw25.CutTells", spec := "cutTells", unfollowed := true, recurses := true, apart := false }
def CutTellsSaid : Prop := cutTellsRow.holds Try.pinned (OpenSpec.ofChange cutTellsSpec)

/-- ITS FALSE NEIGHBOUR: 'it returns false'. Refute it at one input. -/
def cutTellsWrong : ChangeSpec := { name := "cutTells", fn := fun _ => fun
  | [d1, d2] => { results := [.lit (.bool false)], args := [d1, d2] }
  | _ => none }
def CutTellsWrongFalsely : Prop := cutTellsRow.holds Try.pinned (OpenSpec.ofChange cutTellsWrong)

/-- 'haycocklaw25.CutRows': WHATEVER THE INPUT: true; the input reads as it did. -/
def cutRowsSpec : ChangeSpec := { name := "cutRows", fn := fun _ => fun
  | [d1, d2, d3] => { results := [.lit (.bool true)], args := [d1, d2, d3] }
  | _ => none }
def cutRowsRow : OpenClaim := { program := "ytbnaicgmnadkgaa", sum := "3f69c074d3390d51ed632e135e43a73971cd36e79c40674793e7a7d3a68f3d5a", func := "haycock/haycocklaw25.CutRows", spec := "cutRows", unfollowed := true, recurses := true, apart := false }
def CutRowsSaid : Prop := cutRowsRow.holds Try.pinned (OpenSpec.ofChange cutRowsSpec)

/-- ITS FALSE NEIGHBOUR: 'it returns false'. Refute it at one input. -/
def cutRowsWrong : ChangeSpec := { name := "cutRows", fn := fun _ => fun
  | [d1, d2, d3] => { results := [.lit (.bool false)], args := [d1, d2, d3] }
  | _ => none }
def CutRowsWrongFalsely : Prop := cutRowsRow.holds Try.pinned (OpenSpec.ofChange cutRowsWrong)

/-- 'haycocklaw25.CutSwaps': WHATEVER THE INPUT: true; the input reads as it did. -/
def cutSwapsSpec : ChangeSpec := { name := "cutSwaps", fn := fun _ => fun
  | [d1, d2, d3] => { results := [.lit (.bool true)], args := [d1, d2, d3] }
  | _ => none }
def cutSwapsRow : OpenClaim := { program := "ytbnaicgmnadkgaa", sum := "3f69c074d3390d51ed632e135e43a73971cd36e79c40674793e7a7d3a68f3d5a", func := "haycock/haycocklaw25.CutSwaps", spec := "cutSwaps", unfollowed := true, recurses := true, apart := false }
def CutSwapsSaid : Prop := cutSwapsRow.holds Try.pinned (OpenSpec.ofChange cutSwapsSpec)

/-- ITS FALSE NEIGHBOUR: 'it returns false'. Refute it at one input. -/
def cutSwapsWrong : ChangeSpec := { name := "cutSwaps", fn := fun _ => fun
  | [d1, d2, d3] => { results := [.lit (.bool false)], args := [d1, d2, d3] }
  | _ => none }
def CutSwapsWrongFalsely : Prop := cutSwapsRow.holds Try.pinned (OpenSpec.ofChange cutSwapsWrong)

/-- 'haycocklaw27.CodeWords': WHATEVER THE INPUT: true; the input reads as it did. -/
def codeWordsSpec : ChangeSpec := { name := "codeWords", fn := fun _ => fun
  | [d1, d2] => { results := [.lit (.bool true)], args := [d1, d2] }
  | _ => none }
def codeWordsRow : OpenClaim := { program := "ytbnaicgmnadkgaa", sum := "3f69c074d3390d51ed632e135e43a73971cd36e79c40674793e7a7d3a68f3d5a", func := "haycock/haycocklaw27.CodeWords", spec := "codeWords", inPlace := ["internal/abi.NoEscape", "internal/bytealg.MakeNoZero"], unfollowed := true, recurses := true, apart := false }
def CodeWordsSaid : Prop := codeWordsRow.holds Try.pinned (OpenSpec.ofChange codeWordsSpec)

/-- ITS FALSE NEIGHBOUR: 'it returns false'. Refute it at one input. -/
def codeWordsWrong : ChangeSpec := { name := "codeWords", fn := fun _ => fun
  | [d1, d2] => { results := [.lit (.bool false)], args := [d1, d2] }
  | _ => none }
def CodeWordsWrongFalsely : Prop := codeWordsRow.holds Try.pinned (OpenSpec.ofChange codeWordsWrong)

/-- 'haycocklaw27.CodeFree': WHATEVER THE INPUT: true; the input reads as it did. -/
def codeFreeSpec : ChangeSpec := { name := "codeFree", fn := fun _ => fun
  | [d] => { results := [.lit (.bool true)], args := [d] }
  | _ => none }
def codeFreeRow : OpenClaim := { program := "ytbnaicgmnadkgaa", sum := "3f69c074d3390d51ed632e135e43a73971cd36e79c40674793e7a7d3a68f3d5a", func := "haycock/haycocklaw27.CodeFree", spec := "codeFree", inPlace := ["internal/abi.NoEscape", "internal/bytealg.MakeNoZero"], unfollowed := true, recurses := true, apart := false }
def CodeFreeSaid : Prop := codeFreeRow.holds Try.pinned (OpenSpec.ofChange codeFreeSpec)

/-- ITS FALSE NEIGHBOUR: 'it returns false'. Refute it at one input. -/
def codeFreeWrong : ChangeSpec := { name := "codeFree", fn := fun _ => fun
  | [d] => { results := [.lit (.bool false)], args := [d] }
  | _ => none }
def CodeFreeWrongFalsely : Prop := codeFreeRow.holds Try.pinned (OpenSpec.ofChange codeFreeWrong)

/-- 'haycocklaw27.CodePacks': WHATEVER THE INPUT: true; the input reads as it did. -/
def codePacksSpec : ChangeSpec := { name := "codePacks", fn := fun _ => fun
  | [d1, d2] => { results := [.lit (.bool true)], args := [d1, d2] }
  | _ => none }
def codePacksRow : OpenClaim := { program := "ytbnaicgmnadkgaa", sum := "3f69c074d3390d51ed632e135e43a73971cd36e79c40674793e7a7d3a68f3d5a", func := "haycock/haycocklaw27.CodePacks", spec := "codePacks", inPlace := ["internal/abi.NoEscape", "internal/bytealg.MakeNoZero"], unfollowed := true, recurses := true, apart := false }
def CodePacksSaid : Prop := codePacksRow.holds Try.pinned (OpenSpec.ofChange codePacksSpec)

/-- ITS FALSE NEIGHBOUR: 'it returns false'. Refute it at one input. -/
def codePacksWrong : ChangeSpec := { name := "codePacks", fn := fun _ => fun
  | [d1, d2] => { results := [.lit (.bool false)], args := [d1, d2] }
  | _ => none }
def CodePacksWrongFalsely : Prop := codePacksRow.holds Try.pinned (OpenSpec.ofChange codePacksWrong)

/-- 'haycocklaw27.CodeReads': WHATEVER THE INPUT: true; the input reads as it did. -/
def codeReadsSpec : ChangeSpec := { name := "codeReads", fn := fun _ => fun
  | [d1, d2, d3] => { results := [.lit (.bool true)], args := [d1, d2, d3] }
  | _ => none }
def codeReadsRow : OpenClaim := { program := "ytbnaicgmnadkgaa", sum := "3f69c074d3390d51ed632e135e43a73971cd36e79c40674793e7a7d3a68f3d5a", func := "haycock/haycocklaw27.CodeReads", spec := "codeReads", inPlace := ["internal/abi.NoEscape", "internal/bytealg.MakeNoZero"], unfollowed := true, recurses := true, apart := false }
def CodeReadsSaid : Prop := codeReadsRow.holds Try.pinned (OpenSpec.ofChange codeReadsSpec)

/-- ITS FALSE NEIGHBOUR: 'it returns false'. Refute it at one input. -/
def codeReadsWrong : ChangeSpec := { name := "codeReads", fn := fun _ => fun
  | [d1, d2, d3] => { results := [.lit (.bool false)], args := [d1, d2, d3] }
  | _ => none }
def CodeReadsWrongFalsely : Prop := codeReadsRow.holds Try.pinned (OpenSpec.ofChange codeReadsWrong)

/- THE SECOND FORM. 'bulk': how many values and letters a reading holds, each counted each time it is reached (what is shared counts as often as it is met; a slice's spare places count too). A statement '..UptoSaid' is the law's where the arguments, and the package variables that the reading takes, are together of bulk at most 1048576: NARROWER than '..Said'. Prove '..Said' where nothing that the law and all that it calls make is longer than what came in: it says more and counts as full. Else prove '..UptoSaid'. A law counts once. -/
mutual
def uptoBulk {H : Type} : DataW H → Nat
  | .lit (.string bytes) => bytes.length + 1
  | .lit _ => 1
  | .nil => 1
  | .ptr d => uptoBulk d + 1
  | .slice elems spare => uptoBulkAll elems + uptoBulkAll spare + 1
  | .agg parts => uptoBulkAll parts + 1
  | .iface _ d => uptoBulk d + 1
  | .map entries => uptoBulkEntries entries + 1
  | .held _ => 1
def uptoBulkAll {H : Type} : List (DataW H) → Nat
  | [] => 0
  | d :: r => uptoBulk d + uptoBulkAll r
def uptoBulkEntries {H : Type} : List (Lit × DataW H) → Nat
  | [] => 0
  | x :: r => uptoBulkEntry x + uptoBulkEntries r
def uptoBulkEntry {H : Type} : Lit × DataW H → Nat
  | (.string bytes, d) => bytes.length + uptoBulk d + 1
  | (_, d) => uptoBulk d + 1
 end
def uptoSmall : (H : Type) → List (DataW H) → Bool := fun _ ds => decide (uptoBulkAll ds ≤ 1048576)
def OpenSpec.upto (s : _root_.Go.ChangeSpec) : _root_.Go.OpenSpec := { _root_.Go.OpenSpec.ofChange s with cond := some uptoSmall }

/-- 'haycocklaw25.CutTells', WHERE WHAT IT READS IS OF BULK AT MOST 1048576: true; the input reads as it did. -/
def cutTellsUptoRow : OpenClaim := { program := "ytbnaicgmnadkgaa", sum := "3f69c074d3390d51ed632e135e43a73971cd36e79c40674793e7a7d3a68f3d5a", func := "haycock/haycocklaw25.CutTells", spec := "cutTells", unfollowed := true, recurses := true, apart := false, narrowed := true }
def CutTellsUptoSaid : Prop := cutTellsUptoRow.holds Try.pinned (OpenSpec.upto cutTellsSpec)

/-- 'haycocklaw25.CutRows', WHERE WHAT IT READS IS OF BULK AT MOST 1048576: true; the input reads as it did. -/
def cutRowsUptoRow : OpenClaim := { program := "ytbnaicgmnadkgaa", sum := "3f69c074d3390d51ed632e135e43a73971cd36e79c40674793e7a7d3a68f3d5a", func := "haycock/haycocklaw25.CutRows", spec := "cutRows", unfollowed := true, recurses := true, apart := false, narrowed := true }
def CutRowsUptoSaid : Prop := cutRowsUptoRow.holds Try.pinned (OpenSpec.upto cutRowsSpec)

/-- 'haycocklaw25.CutSwaps', WHERE WHAT IT READS IS OF BULK AT MOST 1048576: true; the input reads as it did. -/
def cutSwapsUptoRow : OpenClaim := { program := "ytbnaicgmnadkgaa", sum := "3f69c074d3390d51ed632e135e43a73971cd36e79c40674793e7a7d3a68f3d5a", func := "haycock/haycocklaw25.CutSwaps", spec := "cutSwaps", unfollowed := true, recurses := true, apart := false, narrowed := true }
def CutSwapsUptoSaid : Prop := cutSwapsUptoRow.holds Try.pinned (OpenSpec.upto cutSwapsSpec)

/-- 'haycocklaw27.CodeWords', WHERE WHAT IT READS IS OF BULK AT MOST 1048576: true; the input reads as it did. -/
def codeWordsUptoRow : OpenClaim := { program := "ytbnaicgmnadkgaa", sum := "3f69c074d3390d51ed632e135e43a73971cd36e79c40674793e7a7d3a68f3d5a", func := "haycock/haycocklaw27.CodeWords", spec := "codeWords", inPlace := ["internal/abi.NoEscape", "internal/bytealg.MakeNoZero"], unfollowed := true, recurses := true, apart := false, narrowed := true }
def CodeWordsUptoSaid : Prop := codeWordsUptoRow.holds Try.pinned (OpenSpec.upto codeWordsSpec)

/-- 'haycocklaw27.CodeFree', WHERE WHAT IT READS IS OF BULK AT MOST 1048576: true; the input reads as it did. -/
def codeFreeUptoRow : OpenClaim := { program := "ytbnaicgmnadkgaa", sum := "3f69c074d3390d51ed632e135e43a73971cd36e79c40674793e7a7d3a68f3d5a", func := "haycock/haycocklaw27.CodeFree", spec := "codeFree", inPlace := ["internal/abi.NoEscape", "internal/bytealg.MakeNoZero"], unfollowed := true, recurses := true, apart := false, narrowed := true }
def CodeFreeUptoSaid : Prop := codeFreeUptoRow.holds Try.pinned (OpenSpec.upto codeFreeSpec)

/-- 'haycocklaw27.CodePacks', WHERE WHAT IT READS IS OF BULK AT MOST 1048576: true; the input reads as it did. -/
def codePacksUptoRow : OpenClaim := { program := "ytbnaicgmnadkgaa", sum := "3f69c074d3390d51ed632e135e43a73971cd36e79c40674793e7a7d3a68f3d5a", func := "haycock/haycocklaw27.CodePacks", spec := "codePacks", inPlace := ["internal/abi.NoEscape", "internal/bytealg.MakeNoZero"], unfollowed := true, recurses := true, apart := false, narrowed := true }
def CodePacksUptoSaid : Prop := codePacksUptoRow.holds Try.pinned (OpenSpec.upto codePacksSpec)

/-- 'haycocklaw27.CodeReads', WHERE WHAT IT READS IS OF BULK AT MOST 1048576: true; the input reads as it did. -/
def codeReadsUptoRow : OpenClaim := { program := "ytbnaicgmnadkgaa", sum := "3f69c074d3390d51ed632e135e43a73971cd36e79c40674793e7a7d3a68f3d5a", func := "haycock/haycocklaw27.CodeReads", spec := "codeReads", inPlace := ["internal/abi.NoEscape", "internal/bytealg.MakeNoZero"], unfollowed := true, recurses := true, apart := false, narrowed := true }
def CodeReadsUptoSaid : Prop := codeReadsUptoRow.holds Try.pinned (OpenSpec.upto codeReadsSpec)

end Rows
end Go.Proofs.Ytbnaicgmnadkgaa
