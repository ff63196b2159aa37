/-
  No cell of these rows narrows 'for every input' (looked for: loops, veiled, ifaces, maps, wideKeys, modest, calm, conditions, laid).
  DERIVED. THE GIVEN ROWS OF THIS SEAT. 11 by the template 'for every input the law returns true; each argument reads behind the call as it read before'; 0 by the template 'total and deterministic' (their statements: YtjlnnljohemifaaGreatTotals.lean).
  GIVEN WITH THE SEED: the statements are not yours to turn. If you find one false, say at which input.
  Laid BY PROGRAM, IN A SANDBOX (cutbox-rows.mjs): the forced cells as the released guide's own fill.sh prints them over the translation 30b83448fa313fde… (all of the seat's roots in one cut). By AI agents, Wed Nov 11 2026. No macro, syntax, notation, axiom, sorry.
-/
import Derived.Test.YtjlnnljohemifaaGreatChecked
import GoSem.Claim
import GoSem.ClaimJoined
import GoSem.ClaimMapViews
import Derived.JoinedTies
import Derived.KernelRfl
namespace Go.Proofs.YtjlnnljohemifaaGreat
/- THE CELL 'sum', in the pinned program and in every row, IS THE sha256 OF THE DUMP (.gsa) THAT YtjlnnljohemifaaGreatProg.lean LOADS. Nothing in Lean hashes anything: it is a label: what it is worth is what the hold of that sum in a sandbox is worth. -/
noncomputable def Tryz.pinned : Pinned := { name := "ytjlnnljohemifaagreat", sum := "30b83448fa313fde4627f26d88c45fc808611bb6dd718b0b97a3d0af565dca67", checked := Tryz.checked }
namespace Rows
def none {H : Type} : Left H := { results := [], args := [] }

/-- 'haycocklaw26.LengthsNames': WHATEVER THE INPUT: true; the input reads as it did. -/
def lengthsNamesSpec : ChangeSpec := { name := "lengthsNames", fn := fun _ => fun
  | [] => { results := [.lit (.bool true)], args := [] }
  | _ => none }
def lengthsNamesRow : OpenClaim := { program := "ytjlnnljohemifaagreat", sum := "30b83448fa313fde4627f26d88c45fc808611bb6dd718b0b97a3d0af565dca67", func := "haycock/haycocklaw26.LengthsNames", spec := "lengthsNames", inPlace := ["math/bits.Add64"], unfollowed := true, recurses := true, plainKeys := false, apart := false }
def LengthsNamesSaid : Prop := lengthsNamesRow.holds Tryz.pinned (OpenSpec.ofChange lengthsNamesSpec)

/-- ITS FALSE NEIGHBOUR: 'it returns false'. Refute it at one input. -/
def lengthsNamesWrong : ChangeSpec := { name := "lengthsNames", fn := fun _ => fun
  | [] => { results := [.lit (.bool false)], args := [] }
  | _ => none }
def LengthsNamesWrongFalsely : Prop := lengthsNamesRow.holds Tryz.pinned (OpenSpec.ofChange lengthsNamesWrong)

/-- 'haycocklaw26.LengthsTells': WHATEVER THE INPUT: true; the input reads as it did. -/
def lengthsTellsSpec : ChangeSpec := { name := "lengthsTells", fn := fun _ => fun
  | [d1, d2] => { results := [.lit (.bool true)], args := [d1, d2] }
  | _ => none }
def lengthsTellsRow : OpenClaim := { program := "ytjlnnljohemifaagreat", sum := "30b83448fa313fde4627f26d88c45fc808611bb6dd718b0b97a3d0af565dca67", func := "haycock/haycocklaw26.LengthsTells", spec := "lengthsTells", inPlace := ["math/bits.Add64"], unfollowed := true, recurses := true, plainKeys := false, apart := false }
def LengthsTellsSaid : Prop := lengthsTellsRow.holds Tryz.pinned (OpenSpec.ofChange lengthsTellsSpec)

/-- ITS FALSE NEIGHBOUR: 'it returns false'. Refute it at one input. -/
def lengthsTellsWrong : ChangeSpec := { name := "lengthsTells", fn := fun _ => fun
  | [d1, d2] => { results := [.lit (.bool false)], args := [d1, d2] }
  | _ => none }
def LengthsTellsWrongFalsely : Prop := lengthsTellsRow.holds Tryz.pinned (OpenSpec.ofChange lengthsTellsWrong)

/-- 'haycocklaw26.LengthsCosts': WHATEVER THE INPUT: true; the input reads as it did. -/
def lengthsCostsSpec : ChangeSpec := { name := "lengthsCosts", fn := fun _ => fun
  | [d1, d2] => { results := [.lit (.bool true)], args := [d1, d2] }
  | _ => none }
def lengthsCostsRow : OpenClaim := { program := "ytjlnnljohemifaagreat", sum := "30b83448fa313fde4627f26d88c45fc808611bb6dd718b0b97a3d0af565dca67", func := "haycock/haycocklaw26.LengthsCosts", spec := "lengthsCosts", inPlace := ["math/bits.Add64"], unfollowed := true, recurses := true, plainKeys := false, apart := false }
def LengthsCostsSaid : Prop := lengthsCostsRow.holds Tryz.pinned (OpenSpec.ofChange lengthsCostsSpec)

/-- ITS FALSE NEIGHBOUR: 'it returns false'. Refute it at one input. -/
def lengthsCostsWrong : ChangeSpec := { name := "lengthsCosts", fn := fun _ => fun
  | [d1, d2] => { results := [.lit (.bool false)], args := [d1, d2] }
  | _ => none }
def LengthsCostsWrongFalsely : Prop := lengthsCostsRow.holds Tryz.pinned (OpenSpec.ofChange lengthsCostsWrong)

/-- 'haycocklaw26.LengthsRises': WHATEVER THE INPUT: true; the input reads as it did. -/
def lengthsRisesSpec : ChangeSpec := { name := "lengthsRises", fn := fun _ => fun
  | [d1, d2] => { results := [.lit (.bool true)], args := [d1, d2] }
  | _ => none }
def lengthsRisesRow : OpenClaim := { program := "ytjlnnljohemifaagreat", sum := "30b83448fa313fde4627f26d88c45fc808611bb6dd718b0b97a3d0af565dca67", func := "haycock/haycocklaw26.LengthsRises", spec := "lengthsRises", inPlace := ["math/bits.Add64"], unfollowed := true, recurses := true, plainKeys := false, apart := false }
def LengthsRisesSaid : Prop := lengthsRisesRow.holds Tryz.pinned (OpenSpec.ofChange lengthsRisesSpec)

/-- ITS FALSE NEIGHBOUR: 'it returns false'. Refute it at one input. -/
def lengthsRisesWrong : ChangeSpec := { name := "lengthsRises", fn := fun _ => fun
  | [d1, d2] => { results := [.lit (.bool false)], args := [d1, d2] }
  | _ => none }
def LengthsRisesWrongFalsely : Prop := lengthsRisesRow.holds Tryz.pinned (OpenSpec.ofChange lengthsRisesWrong)

/-- 'haycocklaw26.LengthsBest': WHATEVER THE INPUT: true; the input reads as it did. -/
def lengthsBestSpec : ChangeSpec := { name := "lengthsBest", fn := fun _ => fun
  | [d1, d2, d3] => { results := [.lit (.bool true)], args := [d1, d2, d3] }
  | _ => none }
def lengthsBestRow : OpenClaim := { program := "ytjlnnljohemifaagreat", sum := "30b83448fa313fde4627f26d88c45fc808611bb6dd718b0b97a3d0af565dca67", func := "haycock/haycocklaw26.LengthsBest", spec := "lengthsBest", inPlace := ["math/bits.Add64"], unfollowed := true, recurses := true, plainKeys := false, apart := false }
def LengthsBestSaid : Prop := lengthsBestRow.holds Tryz.pinned (OpenSpec.ofChange lengthsBestSpec)

/-- ITS FALSE NEIGHBOUR: 'it returns false'. Refute it at one input. -/
def lengthsBestWrong : ChangeSpec := { name := "lengthsBest", fn := fun _ => fun
  | [d1, d2, d3] => { results := [.lit (.bool false)], args := [d1, d2, d3] }
  | _ => none }
def LengthsBestWrongFalsely : Prop := lengthsBestRow.holds Tryz.pinned (OpenSpec.ofChange lengthsBestWrong)

/-- 'haycocklaw24.SpanPrims': WHATEVER THE INPUT: true; the input reads as it did. -/
def spanPrimsSpec : ChangeSpec := { name := "spanPrims", fn := fun _ => fun
  | [d1, d2] => { results := [.lit (.bool true)], args := [d1, d2] }
  | _ => none }
def spanPrimsRow : OpenClaim := { program := "ytjlnnljohemifaagreat", sum := "30b83448fa313fde4627f26d88c45fc808611bb6dd718b0b97a3d0af565dca67", func := "haycock/haycocklaw24.SpanPrims", spec := "spanPrims", unfollowed := true, recurses := true, plainKeys := false, apart := false }
def SpanPrimsSaid : Prop := spanPrimsRow.holds Tryz.pinned (OpenSpec.ofChange spanPrimsSpec)

/-- ITS FALSE NEIGHBOUR: 'it returns false'. Refute it at one input. -/
def spanPrimsWrong : ChangeSpec := { name := "spanPrims", fn := fun _ => fun
  | [d1, d2] => { results := [.lit (.bool false)], args := [d1, d2] }
  | _ => none }
def SpanPrimsWrongFalsely : Prop := spanPrimsRow.holds Tryz.pinned (OpenSpec.ofChange spanPrimsWrong)

/-- 'haycocklaw24.SpanBest': WHATEVER THE INPUT: true; the input reads as it did. -/
def spanBestSpec : ChangeSpec := { name := "spanBest", fn := fun _ => fun
  | [d1, d2, d3] => { results := [.lit (.bool true)], args := [d1, d2, d3] }
  | _ => none }
def spanBestRow : OpenClaim := { program := "ytjlnnljohemifaagreat", sum := "30b83448fa313fde4627f26d88c45fc808611bb6dd718b0b97a3d0af565dca67", func := "haycock/haycocklaw24.SpanBest", spec := "spanBest", inPlace := ["math/bits.Add64"], unfollowed := true, recurses := true, plainKeys := false, apart := false }
def SpanBestSaid : Prop := spanBestRow.holds Tryz.pinned (OpenSpec.ofChange spanBestSpec)

/-- ITS FALSE NEIGHBOUR: 'it returns false'. Refute it at one input. -/
def spanBestWrong : ChangeSpec := { name := "spanBest", fn := fun _ => fun
  | [d1, d2, d3] => { results := [.lit (.bool false)], args := [d1, d2, d3] }
  | _ => none }
def SpanBestWrongFalsely : Prop := spanBestRow.holds Tryz.pinned (OpenSpec.ofChange spanBestWrong)

/-- 'haycocklaw24.SpanAlike': WHATEVER THE INPUT: true; the input reads as it did. -/
def spanAlikeSpec : ChangeSpec := { name := "spanAlike", fn := fun _ => fun
  | [d1, d2, d3] => { results := [.lit (.bool true)], args := [d1, d2, d3] }
  | _ => none }
def spanAlikeRow : OpenClaim := { program := "ytjlnnljohemifaagreat", sum := "30b83448fa313fde4627f26d88c45fc808611bb6dd718b0b97a3d0af565dca67", func := "haycock/haycocklaw24.SpanAlike", spec := "spanAlike", inPlace := ["math/bits.Add64"], unfollowed := true, recurses := true, plainKeys := false, apart := false }
def SpanAlikeSaid : Prop := spanAlikeRow.holds Tryz.pinned (OpenSpec.ofChange spanAlikeSpec)

/-- ITS FALSE NEIGHBOUR: 'it returns false'. Refute it at one input. -/
def spanAlikeWrong : ChangeSpec := { name := "spanAlike", fn := fun _ => fun
  | [d1, d2, d3] => { results := [.lit (.bool false)], args := [d1, d2, d3] }
  | _ => none }
def SpanAlikeWrongFalsely : Prop := spanAlikeRow.holds Tryz.pinned (OpenSpec.ofChange spanAlikeWrong)

/-- 'haycocklaw25.CutHolds': WHATEVER THE INPUT: true; the input reads as it did. -/
def cutHoldsSpec : ChangeSpec := { name := "cutHolds", fn := fun _ => fun
  | [d1, d2, d3] => { results := [.lit (.bool true)], args := [d1, d2, d3] }
  | _ => none }
def cutHoldsRow : OpenClaim := { program := "ytjlnnljohemifaagreat", sum := "30b83448fa313fde4627f26d88c45fc808611bb6dd718b0b97a3d0af565dca67", func := "haycock/haycocklaw25.CutHolds", spec := "cutHolds", unfollowed := true, recurses := true, plainKeys := false, apart := false }
def CutHoldsSaid : Prop := cutHoldsRow.holds Tryz.pinned (OpenSpec.ofChange cutHoldsSpec)

/-- ITS FALSE NEIGHBOUR: 'it returns false'. Refute it at one input. -/
def cutHoldsWrong : ChangeSpec := { name := "cutHolds", fn := fun _ => fun
  | [d1, d2, d3] => { results := [.lit (.bool false)], args := [d1, d2, d3] }
  | _ => none }
def CutHoldsWrongFalsely : Prop := cutHoldsRow.holds Tryz.pinned (OpenSpec.ofChange cutHoldsWrong)

/-- 'haycocklaw27.CodeBits': WHATEVER THE INPUT: true; the input reads as it did. -/
def codeBitsSpec : ChangeSpec := { name := "codeBits", fn := fun _ => fun
  | [d1, d2, d3] => { results := [.lit (.bool true)], args := [d1, d2, d3] }
  | _ => none }
def codeBitsRow : OpenClaim := { program := "ytjlnnljohemifaagreat", sum := "30b83448fa313fde4627f26d88c45fc808611bb6dd718b0b97a3d0af565dca67", func := "haycock/haycocklaw27.CodeBits", spec := "codeBits", inPlace := ["internal/abi.NoEscape", "internal/bytealg.MakeNoZero"], unfollowed := true, recurses := true, plainKeys := false, apart := false }
def CodeBitsSaid : Prop := codeBitsRow.holds Tryz.pinned (OpenSpec.ofChange codeBitsSpec)

/-- ITS FALSE NEIGHBOUR: 'it returns false'. Refute it at one input. -/
def codeBitsWrong : ChangeSpec := { name := "codeBits", fn := fun _ => fun
  | [d1, d2, d3] => { results := [.lit (.bool false)], args := [d1, d2, d3] }
  | _ => none }
def CodeBitsWrongFalsely : Prop := codeBitsRow.holds Tryz.pinned (OpenSpec.ofChange codeBitsWrong)

/-- 'haycocklaw27.CodeBack': WHATEVER THE INPUT: true; the input reads as it did. -/
def codeBackSpec : ChangeSpec := { name := "codeBack", fn := fun _ => fun
  | [d1, d2, d3] => { results := [.lit (.bool true)], args := [d1, d2, d3] }
  | _ => none }
def codeBackRow : OpenClaim := { program := "ytjlnnljohemifaagreat", sum := "30b83448fa313fde4627f26d88c45fc808611bb6dd718b0b97a3d0af565dca67", func := "haycock/haycocklaw27.CodeBack", spec := "codeBack", inPlace := ["internal/abi.NoEscape", "internal/bytealg.MakeNoZero"], unfollowed := true, recurses := true, plainKeys := false, apart := false }
def CodeBackSaid : Prop := codeBackRow.holds Tryz.pinned (OpenSpec.ofChange codeBackSpec)

/-- ITS FALSE NEIGHBOUR: 'it returns false'. Refute it at one input. -/
def codeBackWrong : ChangeSpec := { name := "codeBack", fn := fun _ => fun
  | [d1, d2, d3] => { results := [.lit (.bool false)], args := [d1, d2, d3] }
  | _ => none }
def CodeBackWrongFalsely : Prop := codeBackRow.holds Tryz.pinned (OpenSpec.ofChange codeBackWrong)

/- THE SECOND FORM. 'bulk': how many values and letters a reading holds, each counted each time it is reached (what is shared counts as often as it is met; a slice's spare places count too). A statement '..UptoSaid' is the law's where the arguments, and the package variables that the reading takes, are together of bulk at most 1048576: NARROWER than '..Said'. Prove '..Said' where nothing that the law and all that it calls make is longer than what came in: it says more and counts as full. Else prove '..UptoSaid'. A law counts once. -/
mutual
def uptoBulk {H : Type} : DataW H → Nat
  | .lit (.string bytes) => bytes.length + 1
  | .lit _ => 1
  | .nil => 1
  | .ptr d => uptoBulk d + 1
  | .slice elems spare => uptoBulkAll elems + uptoBulkAll spare + 1
  | .agg parts => uptoBulkAll parts + 1
  | .iface _ d => uptoBulk d + 1
  | .map entries => uptoBulkEntries entries + 1
  | .held _ => 1
def uptoBulkAll {H : Type} : List (DataW H) → Nat
  | [] => 0
  | d :: r => uptoBulk d + uptoBulkAll r
def uptoBulkEntries {H : Type} : List (Lit × DataW H) → Nat
  | [] => 0
  | x :: r => uptoBulkEntry x + uptoBulkEntries r
def uptoBulkEntry {H : Type} : Lit × DataW H → Nat
  | (.string bytes, d) => bytes.length + uptoBulk d + 1
  | (_, d) => uptoBulk d + 1
 end
def uptoSmall : (H : Type) → List (DataW H) → Bool := fun _ ds => decide (uptoBulkAll ds ≤ 1048576)
def OpenSpec.upto (s : _root_.Go.ChangeSpec) : _root_.Go.OpenSpec := { _root_.Go.OpenSpec.ofChange s with cond := some uptoSmall }

/-- 'haycocklaw26.LengthsNames', WHERE WHAT IT READS IS OF BULK AT MOST 1048576: true; the input reads as it did. -/
def lengthsNamesUptoRow : OpenClaim := { program := "ytjlnnljohemifaagreat", sum := "30b83448fa313fde4627f26d88c45fc808611bb6dd718b0b97a3d0af565dca67", func := "haycock/haycocklaw26.LengthsNames", spec := "lengthsNames", inPlace := ["math/bits.Add64"], unfollowed := true, recurses := true, plainKeys := false, apart := false, narrowed := true }
def LengthsNamesUptoSaid : Prop := lengthsNamesUptoRow.holds Tryz.pinned (OpenSpec.upto lengthsNamesSpec)

/-- 'haycocklaw26.LengthsTells', WHERE WHAT IT READS IS OF BULK AT MOST 1048576: true; the input reads as it did. -/
def lengthsTellsUptoRow : OpenClaim := { program := "ytjlnnljohemifaagreat", sum := "30b83448fa313fde4627f26d88c45fc808611bb6dd718b0b97a3d0af565dca67", func := "haycock/haycocklaw26.LengthsTells", spec := "lengthsTells", inPlace := ["math/bits.Add64"], unfollowed := true, recurses := true, plainKeys := false, apart := false, narrowed := true }
def LengthsTellsUptoSaid : Prop := lengthsTellsUptoRow.holds Tryz.pinned (OpenSpec.upto lengthsTellsSpec)

/-- 'haycocklaw26.LengthsCosts', WHERE WHAT IT READS IS OF BULK AT MOST 1048576: true; the input reads as it did. -/
def lengthsCostsUptoRow : OpenClaim := { program := "ytjlnnljohemifaagreat", sum := "30b83448fa313fde4627f26d88c45fc808611bb6dd718b0b97a3d0af565dca67", func := "haycock/haycocklaw26.LengthsCosts", spec := "lengthsCosts", inPlace := ["math/bits.Add64"], unfollowed := true, recurses := true, plainKeys := false, apart := false, narrowed := true }
def LengthsCostsUptoSaid : Prop := lengthsCostsUptoRow.holds Tryz.pinned (OpenSpec.upto lengthsCostsSpec)

/-- 'haycocklaw26.LengthsRises', WHERE WHAT IT READS IS OF BULK AT MOST 1048576: true; the input reads as it did. -/
def lengthsRisesUptoRow : OpenClaim := { program := "ytjlnnljohemifaagreat", sum := "30b83448fa313fde4627f26d88c45fc808611bb6dd718b0b97a3d0af565dca67", func := "haycock/haycocklaw26.LengthsRises", spec := "lengthsRises", inPlace := ["math/bits.Add64"], unfollowed := true, recurses := true, plainKeys := false, apart := false, narrowed := true }
def LengthsRisesUptoSaid : Prop := lengthsRisesUptoRow.holds Tryz.pinned (OpenSpec.upto lengthsRisesSpec)

/-- 'haycocklaw26.LengthsBest', WHERE WHAT IT READS IS OF BULK AT MOST 1048576: true; the input reads as it did. -/
def lengthsBestUptoRow : OpenClaim := { program := "ytjlnnljohemifaagreat", sum := "30b83448fa313fde4627f26d88c45fc808611bb6dd718b0b97a3d0af565dca67", func := "haycock/haycocklaw26.LengthsBest", spec := "lengthsBest", inPlace := ["math/bits.Add64"], unfollowed := true, recurses := true, plainKeys := false, apart := false, narrowed := true }
def LengthsBestUptoSaid : Prop := lengthsBestUptoRow.holds Tryz.pinned (OpenSpec.upto lengthsBestSpec)

/-- 'haycocklaw24.SpanPrims', WHERE WHAT IT READS IS OF BULK AT MOST 1048576: true; the input reads as it did. -/
def spanPrimsUptoRow : OpenClaim := { program := "ytjlnnljohemifaagreat", sum := "30b83448fa313fde4627f26d88c45fc808611bb6dd718b0b97a3d0af565dca67", func := "haycock/haycocklaw24.SpanPrims", spec := "spanPrims", unfollowed := true, recurses := true, plainKeys := false, apart := false, narrowed := true }
def SpanPrimsUptoSaid : Prop := spanPrimsUptoRow.holds Tryz.pinned (OpenSpec.upto spanPrimsSpec)

/-- 'haycocklaw24.SpanBest', WHERE WHAT IT READS IS OF BULK AT MOST 1048576: true; the input reads as it did. -/
def spanBestUptoRow : OpenClaim := { program := "ytjlnnljohemifaagreat", sum := "30b83448fa313fde4627f26d88c45fc808611bb6dd718b0b97a3d0af565dca67", func := "haycock/haycocklaw24.SpanBest", spec := "spanBest", inPlace := ["math/bits.Add64"], unfollowed := true, recurses := true, plainKeys := false, apart := false, narrowed := true }
def SpanBestUptoSaid : Prop := spanBestUptoRow.holds Tryz.pinned (OpenSpec.upto spanBestSpec)

/-- 'haycocklaw24.SpanAlike', WHERE WHAT IT READS IS OF BULK AT MOST 1048576: true; the input reads as it did. -/
def spanAlikeUptoRow : OpenClaim := { program := "ytjlnnljohemifaagreat", sum := "30b83448fa313fde4627f26d88c45fc808611bb6dd718b0b97a3d0af565dca67", func := "haycock/haycocklaw24.SpanAlike", spec := "spanAlike", inPlace := ["math/bits.Add64"], unfollowed := true, recurses := true, plainKeys := false, apart := false, narrowed := true }
def SpanAlikeUptoSaid : Prop := spanAlikeUptoRow.holds Tryz.pinned (OpenSpec.upto spanAlikeSpec)

/-- 'haycocklaw25.CutHolds', WHERE WHAT IT READS IS OF BULK AT MOST 1048576: true; the input reads as it did. -/
def cutHoldsUptoRow : OpenClaim := { program := "ytjlnnljohemifaagreat", sum := "30b83448fa313fde4627f26d88c45fc808611bb6dd718b0b97a3d0af565dca67", func := "haycock/haycocklaw25.CutHolds", spec := "cutHolds", unfollowed := true, recurses := true, plainKeys := false, apart := false, narrowed := true }
def CutHoldsUptoSaid : Prop := cutHoldsUptoRow.holds Tryz.pinned (OpenSpec.upto cutHoldsSpec)

/-- 'haycocklaw27.CodeBits', WHERE WHAT IT READS IS OF BULK AT MOST 1048576: true; the input reads as it did. -/
def codeBitsUptoRow : OpenClaim := { program := "ytjlnnljohemifaagreat", sum := "30b83448fa313fde4627f26d88c45fc808611bb6dd718b0b97a3d0af565dca67", func := "haycock/haycocklaw27.CodeBits", spec := "codeBits", inPlace := ["internal/abi.NoEscape", "internal/bytealg.MakeNoZero"], unfollowed := true, recurses := true, plainKeys := false, apart := false, narrowed := true }
def CodeBitsUptoSaid : Prop := codeBitsUptoRow.holds Tryz.pinned (OpenSpec.upto codeBitsSpec)

/-- 'haycocklaw27.CodeBack', WHERE WHAT IT READS IS OF BULK AT MOST 1048576: true; the input reads as it did. -/
def codeBackUptoRow : OpenClaim := { program := "ytjlnnljohemifaagreat", sum := "30b83448fa313fde4627f26d88c45fc808611bb6dd718b0b97a3d0af565dca67", func := "haycock/haycocklaw27.CodeBack", spec := "codeBack", inPlace := ["internal/abi.NoEscape", "internal/bytealg.MakeNoZero"], unfollowed := true, recurses := true, plainKeys := false, apart := false, narrowed := true }
def CodeBackUptoSaid : Prop := codeBackUptoRow.holds Tryz.pinned (OpenSpec.upto codeBackSpec)

end Rows
end Go.Proofs.YtjlnnljohemifaaGreat
