/-
  No cell of these rows narrows 'for every input' (looked for: loops, veiled, ifaces, maps, wideKeys, modest, calm, conditions, laid).
  DERIVED. THE GIVEN ROWS OF THIS SEAT. 11 by the template 'for every input the law returns true; each argument reads behind the call as it read before'; 0 by the template 'total and deterministic' (their statements: YteicchpglnamcaaTotals.lean).
  GIVEN WITH THE SEED: the statements are not yours to turn. If you find one false, say at which input.
  Laid BY PROGRAM, IN A SANDBOX (cutbox-rows.mjs): the forced cells as the released guide's own fill.sh prints them over the translation 66ffad58fa3bc9c8… (all of the seat's roots in one cut). By AI agents, Wed Nov 11 2026. No macro, syntax, notation, axiom, sorry.
-/
import Derived.Test.YteicchpglnamcaaChecked
import GoSem.Claim
import GoSem.ClaimJoined
import GoSem.ClaimMapViews
import Derived.JoinedTies
import Derived.KernelRfl
namespace Go.Proofs.Yteicchpglnamcaa
/- THE CELL 'sum', in the pinned program and in every row, IS THE sha256 OF THE DUMP (.gsa) THAT YteicchpglnamcaaProg.lean LOADS. Nothing in Lean hashes anything: it is a label: what it is worth is what the hold of that sum in a sandbox is worth. -/
noncomputable def Try.pinned : Pinned := { name := "yteicchpglnamcaa", sum := "66ffad58fa3bc9c83b1ce11a7f74cc8517fe32e30a3fde3c009bf23cea7906d0", checked := Try.checked }
namespace Rows
def none {H : Type} : Left H := { results := [], args := [] }

/-- 'haycocklaw06.ShedNew': WHATEVER THE INPUT: true; the input reads as it did. -/
def shedNewSpec : ChangeSpec := { name := "shedNew", fn := fun _ => fun
  | [d] => { results := [.lit (.bool true)], args := [d] }
  | _ => none }
def shedNewRow : OpenClaim := { program := "yteicchpglnamcaa", sum := "66ffad58fa3bc9c83b1ce11a7f74cc8517fe32e30a3fde3c009bf23cea7906d0", func := "haycock/haycocklaw06.ShedNew", spec := "shedNew", unfollowed := true, recurses := true, apart := false }
def ShedNewSaid : Prop := shedNewRow.holds Try.pinned (OpenSpec.ofChange shedNewSpec)

/-- ITS FALSE NEIGHBOUR: 'it returns false'. Refute it at one input. -/
def shedNewWrong : ChangeSpec := { name := "shedNew", fn := fun _ => fun
  | [d] => { results := [.lit (.bool false)], args := [d] }
  | _ => none }
def ShedNewWrongFalsely : Prop := shedNewRow.holds Try.pinned (OpenSpec.ofChange shedNewWrong)

/-- 'haycocklaw06.ShedSorts': WHATEVER THE INPUT: true; the input reads as it did. -/
def shedSortsSpec : ChangeSpec := { name := "shedSorts", fn := fun _ => fun
  | [d] => { results := [.lit (.bool true)], args := [d] }
  | _ => none }
def shedSortsRow : OpenClaim := { program := "yteicchpglnamcaa", sum := "66ffad58fa3bc9c83b1ce11a7f74cc8517fe32e30a3fde3c009bf23cea7906d0", func := "haycock/haycocklaw06.ShedSorts", spec := "shedSorts", unfollowed := true, recurses := true, apart := false }
def ShedSortsSaid : Prop := shedSortsRow.holds Try.pinned (OpenSpec.ofChange shedSortsSpec)

/-- ITS FALSE NEIGHBOUR: 'it returns false'. Refute it at one input. -/
def shedSortsWrong : ChangeSpec := { name := "shedSorts", fn := fun _ => fun
  | [d] => { results := [.lit (.bool false)], args := [d] }
  | _ => none }
def ShedSortsWrongFalsely : Prop := shedSortsRow.holds Try.pinned (OpenSpec.ofChange shedSortsWrong)

/-- 'haycocklaw06.ShedMelds': WHATEVER THE INPUT: true; the input reads as it did. -/
def shedMeldsSpec : ChangeSpec := { name := "shedMelds", fn := fun _ => fun
  | [d1, d2] => { results := [.lit (.bool true)], args := [d1, d2] }
  | _ => none }
def shedMeldsRow : OpenClaim := { program := "yteicchpglnamcaa", sum := "66ffad58fa3bc9c83b1ce11a7f74cc8517fe32e30a3fde3c009bf23cea7906d0", func := "haycock/haycocklaw06.ShedMelds", spec := "shedMelds", unfollowed := true, recurses := true, apart := false }
def ShedMeldsSaid : Prop := shedMeldsRow.holds Try.pinned (OpenSpec.ofChange shedMeldsSpec)

/-- ITS FALSE NEIGHBOUR: 'it returns false'. Refute it at one input. -/
def shedMeldsWrong : ChangeSpec := { name := "shedMelds", fn := fun _ => fun
  | [d1, d2] => { results := [.lit (.bool false)], args := [d1, d2] }
  | _ => none }
def ShedMeldsWrongFalsely : Prop := shedMeldsRow.holds Try.pinned (OpenSpec.ofChange shedMeldsWrong)

/-- 'haycocklaw06.ShedRuns': WHATEVER THE INPUT: true; the input reads as it did. -/
def shedRunsSpec : ChangeSpec := { name := "shedRuns", fn := fun _ => fun
  | [d1, d2] => { results := [.lit (.bool true)], args := [d1, d2] }
  | _ => none }
def shedRunsRow : OpenClaim := { program := "yteicchpglnamcaa", sum := "66ffad58fa3bc9c83b1ce11a7f74cc8517fe32e30a3fde3c009bf23cea7906d0", func := "haycock/haycocklaw06.ShedRuns", spec := "shedRuns", unfollowed := true, recurses := true, apart := false }
def ShedRunsSaid : Prop := shedRunsRow.holds Try.pinned (OpenSpec.ofChange shedRunsSpec)

/-- ITS FALSE NEIGHBOUR: 'it returns false'. Refute it at one input. -/
def shedRunsWrong : ChangeSpec := { name := "shedRuns", fn := fun _ => fun
  | [d1, d2] => { results := [.lit (.bool false)], args := [d1, d2] }
  | _ => none }
def ShedRunsWrongFalsely : Prop := shedRunsRow.holds Try.pinned (OpenSpec.ofChange shedRunsWrong)

/-- 'haycocklaw06.ShedLimits': WHATEVER THE INPUT: true; the input reads as it did. -/
def shedLimitsSpec : ChangeSpec := { name := "shedLimits", fn := fun _ => fun
  | [d1, d2] => { results := [.lit (.bool true)], args := [d1, d2] }
  | _ => none }
def shedLimitsRow : OpenClaim := { program := "yteicchpglnamcaa", sum := "66ffad58fa3bc9c83b1ce11a7f74cc8517fe32e30a3fde3c009bf23cea7906d0", func := "haycock/haycocklaw06.ShedLimits", spec := "shedLimits", unfollowed := true, recurses := true, apart := false }
def ShedLimitsSaid : Prop := shedLimitsRow.holds Try.pinned (OpenSpec.ofChange shedLimitsSpec)

/-- ITS FALSE NEIGHBOUR: 'it returns false'. Refute it at one input. -/
def shedLimitsWrong : ChangeSpec := { name := "shedLimits", fn := fun _ => fun
  | [d1, d2] => { results := [.lit (.bool false)], args := [d1, d2] }
  | _ => none }
def ShedLimitsWrongFalsely : Prop := shedLimitsRow.holds Try.pinned (OpenSpec.ofChange shedLimitsWrong)

/-- 'haycocklaw08.DaryNew': WHATEVER THE INPUT: true; the input reads as it did. -/
def daryNewSpec : ChangeSpec := { name := "daryNew", fn := fun _ => fun
  | [d1, d2] => { results := [.lit (.bool true)], args := [d1, d2] }
  | _ => none }
def daryNewRow : OpenClaim := { program := "yteicchpglnamcaa", sum := "66ffad58fa3bc9c83b1ce11a7f74cc8517fe32e30a3fde3c009bf23cea7906d0", func := "haycock/haycocklaw08.DaryNew", spec := "daryNew", unfollowed := true, recurses := true, apart := false }
def DaryNewSaid : Prop := daryNewRow.holds Try.pinned (OpenSpec.ofChange daryNewSpec)

/-- ITS FALSE NEIGHBOUR: 'it returns false'. Refute it at one input. -/
def daryNewWrong : ChangeSpec := { name := "daryNew", fn := fun _ => fun
  | [d1, d2] => { results := [.lit (.bool false)], args := [d1, d2] }
  | _ => none }
def DaryNewWrongFalsely : Prop := daryNewRow.holds Try.pinned (OpenSpec.ofChange daryNewWrong)

/-- 'haycocklaw08.DaryAlike': WHATEVER THE INPUT: true; the input reads as it did. -/
def daryAlikeSpec : ChangeSpec := { name := "daryAlike", fn := fun _ => fun
  | [d1, d2, d3] => { results := [.lit (.bool true)], args := [d1, d2, d3] }
  | _ => none }
def daryAlikeRow : OpenClaim := { program := "yteicchpglnamcaa", sum := "66ffad58fa3bc9c83b1ce11a7f74cc8517fe32e30a3fde3c009bf23cea7906d0", func := "haycock/haycocklaw08.DaryAlike", spec := "daryAlike", unfollowed := true, recurses := true, apart := false }
def DaryAlikeSaid : Prop := daryAlikeRow.holds Try.pinned (OpenSpec.ofChange daryAlikeSpec)

/-- ITS FALSE NEIGHBOUR: 'it returns false'. Refute it at one input. -/
def daryAlikeWrong : ChangeSpec := { name := "daryAlike", fn := fun _ => fun
  | [d1, d2, d3] => { results := [.lit (.bool false)], args := [d1, d2, d3] }
  | _ => none }
def DaryAlikeWrongFalsely : Prop := daryAlikeRow.holds Try.pinned (OpenSpec.ofChange daryAlikeWrong)

/-- 'haycocklaw08.DarySorts': WHATEVER THE INPUT: true; the input reads as it did. -/
def darySortsSpec : ChangeSpec := { name := "darySorts", fn := fun _ => fun
  | [d1, d2] => { results := [.lit (.bool true)], args := [d1, d2] }
  | _ => none }
def darySortsRow : OpenClaim := { program := "yteicchpglnamcaa", sum := "66ffad58fa3bc9c83b1ce11a7f74cc8517fe32e30a3fde3c009bf23cea7906d0", func := "haycock/haycocklaw08.DarySorts", spec := "darySorts", unfollowed := true, recurses := true, apart := false }
def DarySortsSaid : Prop := darySortsRow.holds Try.pinned (OpenSpec.ofChange darySortsSpec)

/-- ITS FALSE NEIGHBOUR: 'it returns false'. Refute it at one input. -/
def darySortsWrong : ChangeSpec := { name := "darySorts", fn := fun _ => fun
  | [d1, d2] => { results := [.lit (.bool false)], args := [d1, d2] }
  | _ => none }
def DarySortsWrongFalsely : Prop := darySortsRow.holds Try.pinned (OpenSpec.ofChange darySortsWrong)

/-- 'haycocklaw08.DaryMelds': WHATEVER THE INPUT: true; the input reads as it did. -/
def daryMeldsSpec : ChangeSpec := { name := "daryMelds", fn := fun _ => fun
  | [d1, d2, d3] => { results := [.lit (.bool true)], args := [d1, d2, d3] }
  | _ => none }
def daryMeldsRow : OpenClaim := { program := "yteicchpglnamcaa", sum := "66ffad58fa3bc9c83b1ce11a7f74cc8517fe32e30a3fde3c009bf23cea7906d0", func := "haycock/haycocklaw08.DaryMelds", spec := "daryMelds", unfollowed := true, recurses := true, apart := false }
def DaryMeldsSaid : Prop := daryMeldsRow.holds Try.pinned (OpenSpec.ofChange daryMeldsSpec)

/-- ITS FALSE NEIGHBOUR: 'it returns false'. Refute it at one input. -/
def daryMeldsWrong : ChangeSpec := { name := "daryMelds", fn := fun _ => fun
  | [d1, d2, d3] => { results := [.lit (.bool false)], args := [d1, d2, d3] }
  | _ => none }
def DaryMeldsWrongFalsely : Prop := daryMeldsRow.holds Try.pinned (OpenSpec.ofChange daryMeldsWrong)

/-- 'haycocklaw08.DaryRuns': WHATEVER THE INPUT: true; the input reads as it did. -/
def daryRunsSpec : ChangeSpec := { name := "daryRuns", fn := fun _ => fun
  | [d1, d2, d3] => { results := [.lit (.bool true)], args := [d1, d2, d3] }
  | _ => none }
def daryRunsRow : OpenClaim := { program := "yteicchpglnamcaa", sum := "66ffad58fa3bc9c83b1ce11a7f74cc8517fe32e30a3fde3c009bf23cea7906d0", func := "haycock/haycocklaw08.DaryRuns", spec := "daryRuns", unfollowed := true, recurses := true, apart := false }
def DaryRunsSaid : Prop := daryRunsRow.holds Try.pinned (OpenSpec.ofChange daryRunsSpec)

/-- ITS FALSE NEIGHBOUR: 'it returns false'. Refute it at one input. -/
def daryRunsWrong : ChangeSpec := { name := "daryRuns", fn := fun _ => fun
  | [d1, d2, d3] => { results := [.lit (.bool false)], args := [d1, d2, d3] }
  | _ => none }
def DaryRunsWrongFalsely : Prop := daryRunsRow.holds Try.pinned (OpenSpec.ofChange daryRunsWrong)

/-- 'haycocklaw08.DaryLimits': WHATEVER THE INPUT: true; the input reads as it did. -/
def daryLimitsSpec : ChangeSpec := { name := "daryLimits", fn := fun _ => fun
  | [d1, d2, d3] => { results := [.lit (.bool true)], args := [d1, d2, d3] }
  | _ => none }
def daryLimitsRow : OpenClaim := { program := "yteicchpglnamcaa", sum := "66ffad58fa3bc9c83b1ce11a7f74cc8517fe32e30a3fde3c009bf23cea7906d0", func := "haycock/haycocklaw08.DaryLimits", spec := "daryLimits", unfollowed := true, recurses := true, apart := false }
def DaryLimitsSaid : Prop := daryLimitsRow.holds Try.pinned (OpenSpec.ofChange daryLimitsSpec)

/-- ITS FALSE NEIGHBOUR: 'it returns false'. Refute it at one input. -/
def daryLimitsWrong : ChangeSpec := { name := "daryLimits", fn := fun _ => fun
  | [d1, d2, d3] => { results := [.lit (.bool false)], args := [d1, d2, d3] }
  | _ => none }
def DaryLimitsWrongFalsely : Prop := daryLimitsRow.holds Try.pinned (OpenSpec.ofChange daryLimitsWrong)

/- THE SECOND FORM. 'bulk': how many values and letters a reading holds, each counted each time it is reached (what is shared counts as often as it is met; a slice's spare places count too). A statement '..UptoSaid' is the law's where the arguments, and the package variables that the reading takes, are together of bulk at most 1048576: NARROWER than '..Said'. Prove '..Said' where nothing that the law and all that it calls make is longer than what came in: it says more and counts as full. Else prove '..UptoSaid'. A law counts once. -/
mutual
def uptoBulk {H : Type} : DataW H → Nat
  | .lit (.string bytes) => bytes.length + 1
  | .lit _ => 1
  | .nil => 1
  | .ptr d => uptoBulk d + 1
  | .slice elems spare => uptoBulkAll elems + uptoBulkAll spare + 1
  | .agg parts => uptoBulkAll parts + 1
  | .iface _ d => uptoBulk d + 1
  | .map entries => uptoBulkEntries entries + 1
  | .held _ => 1
def uptoBulkAll {H : Type} : List (DataW H) → Nat
  | [] => 0
  | d :: r => uptoBulk d + uptoBulkAll r
def uptoBulkEntries {H : Type} : List (Lit × DataW H) → Nat
  | [] => 0
  | x :: r => uptoBulkEntry x + uptoBulkEntries r
def uptoBulkEntry {H : Type} : Lit × DataW H → Nat
  | (.string bytes, d) => bytes.length + uptoBulk d + 1
  | (_, d) => uptoBulk d + 1
 end
def uptoSmall : (H : Type) → List (DataW H) → Bool := fun _ ds => decide (uptoBulkAll ds ≤ 1048576)
def OpenSpec.upto (s : _root_.Go.ChangeSpec) : _root_.Go.OpenSpec := { _root_.Go.OpenSpec.ofChange s with cond := some uptoSmall }

/-- 'haycocklaw06.ShedNew', WHERE WHAT IT READS IS OF BULK AT MOST 1048576: true; the input reads as it did. -/
def shedNewUptoRow : OpenClaim := { program := "yteicchpglnamcaa", sum := "66ffad58fa3bc9c83b1ce11a7f74cc8517fe32e30a3fde3c009bf23cea7906d0", func := "haycock/haycocklaw06.ShedNew", spec := "shedNew", unfollowed := true, recurses := true, apart := false, narrowed := true }
def ShedNewUptoSaid : Prop := shedNewUptoRow.holds Try.pinned (OpenSpec.upto shedNewSpec)

/-- 'haycocklaw06.ShedSorts', WHERE WHAT IT READS IS OF BULK AT MOST 1048576: true; the input reads as it did. -/
def shedSortsUptoRow : OpenClaim := { program := "yteicchpglnamcaa", sum := "66ffad58fa3bc9c83b1ce11a7f74cc8517fe32e30a3fde3c009bf23cea7906d0", func := "haycock/haycocklaw06.ShedSorts", spec := "shedSorts", unfollowed := true, recurses := true, apart := false, narrowed := true }
def ShedSortsUptoSaid : Prop := shedSortsUptoRow.holds Try.pinned (OpenSpec.upto shedSortsSpec)

/-- 'haycocklaw06.ShedMelds', WHERE WHAT IT READS IS OF BULK AT MOST 1048576: true; the input reads as it did. -/
def shedMeldsUptoRow : OpenClaim := { program := "yteicchpglnamcaa", sum := "66ffad58fa3bc9c83b1ce11a7f74cc8517fe32e30a3fde3c009bf23cea7906d0", func := "haycock/haycocklaw06.ShedMelds", spec := "shedMelds", unfollowed := true, recurses := true, apart := false, narrowed := true }
def ShedMeldsUptoSaid : Prop := shedMeldsUptoRow.holds Try.pinned (OpenSpec.upto shedMeldsSpec)

/-- 'haycocklaw06.ShedRuns', WHERE WHAT IT READS IS OF BULK AT MOST 1048576: true; the input reads as it did. -/
def shedRunsUptoRow : OpenClaim := { program := "yteicchpglnamcaa", sum := "66ffad58fa3bc9c83b1ce11a7f74cc8517fe32e30a3fde3c009bf23cea7906d0", func := "haycock/haycocklaw06.ShedRuns", spec := "shedRuns", unfollowed := true, recurses := true, apart := false, narrowed := true }
def ShedRunsUptoSaid : Prop := shedRunsUptoRow.holds Try.pinned (OpenSpec.upto shedRunsSpec)

/-- 'haycocklaw06.ShedLimits', WHERE WHAT IT READS IS OF BULK AT MOST 1048576: true; the input reads as it did. -/
def shedLimitsUptoRow : OpenClaim := { program := "yteicchpglnamcaa", sum := "66ffad58fa3bc9c83b1ce11a7f74cc8517fe32e30a3fde3c009bf23cea7906d0", func := "haycock/haycocklaw06.ShedLimits", spec := "shedLimits", unfollowed := true, recurses := true, apart := false, narrowed := true }
def ShedLimitsUptoSaid : Prop := shedLimitsUptoRow.holds Try.pinned (OpenSpec.upto shedLimitsSpec)

/-- 'haycocklaw08.DaryNew', WHERE WHAT IT READS IS OF BULK AT MOST 1048576: true; the input reads as it did. -/
def daryNewUptoRow : OpenClaim := { program := "yteicchpglnamcaa", sum := "66ffad58fa3bc9c83b1ce11a7f74cc8517fe32e30a3fde3c009bf23cea7906d0", func := "haycock/haycocklaw08.DaryNew", spec := "daryNew", unfollowed := true, recurses := true, apart := false, narrowed := true }
def DaryNewUptoSaid : Prop := daryNewUptoRow.holds Try.pinned (OpenSpec.upto daryNewSpec)

/-- 'haycocklaw08.DaryAlike', WHERE WHAT IT READS IS OF BULK AT MOST 1048576: true; the input reads as it did. -/
def daryAlikeUptoRow : OpenClaim := { program := "yteicchpglnamcaa", sum := "66ffad58fa3bc9c83b1ce11a7f74cc8517fe32e30a3fde3c009bf23cea7906d0", func := "haycock/haycocklaw08.DaryAlike", spec := "daryAlike", unfollowed := true, recurses := true, apart := false, narrowed := true }
def DaryAlikeUptoSaid : Prop := daryAlikeUptoRow.holds Try.pinned (OpenSpec.upto daryAlikeSpec)

/-- 'haycocklaw08.DarySorts', WHERE WHAT IT READS IS OF BULK AT MOST 1048576: true; the input reads as it did. -/
def darySortsUptoRow : OpenClaim := { program := "yteicchpglnamcaa", sum := "66ffad58fa3bc9c83b1ce11a7f74cc8517fe32e30a3fde3c009bf23cea7906d0", func := "haycock/haycocklaw08.DarySorts", spec := "darySorts", unfollowed := true, recurses := true, apart := false, narrowed := true }
def DarySortsUptoSaid : Prop := darySortsUptoRow.holds Try.pinned (OpenSpec.upto darySortsSpec)

/-- 'haycocklaw08.DaryMelds', WHERE WHAT IT READS IS OF BULK AT MOST 1048576: true; the input reads as it did. -/
def daryMeldsUptoRow : OpenClaim := { program := "yteicchpglnamcaa", sum := "66ffad58fa3bc9c83b1ce11a7f74cc8517fe32e30a3fde3c009bf23cea7906d0", func := "haycock/haycocklaw08.DaryMelds", spec := "daryMelds", unfollowed := true, recurses := true, apart := false, narrowed := true }
def DaryMeldsUptoSaid : Prop := daryMeldsUptoRow.holds Try.pinned (OpenSpec.upto daryMeldsSpec)

/-- 'haycocklaw08.DaryRuns', WHERE WHAT IT READS IS OF BULK AT MOST 1048576: true; the input reads as it did. -/
def daryRunsUptoRow : OpenClaim := { program := "yteicchpglnamcaa", sum := "66ffad58fa3bc9c83b1ce11a7f74cc8517fe32e30a3fde3c009bf23cea7906d0", func := "haycock/haycocklaw08.DaryRuns", spec := "daryRuns", unfollowed := true, recurses := true, apart := false, narrowed := true }
def DaryRunsUptoSaid : Prop := daryRunsUptoRow.holds Try.pinned (OpenSpec.upto daryRunsSpec)

/-- 'haycocklaw08.DaryLimits', WHERE WHAT IT READS IS OF BULK AT MOST 1048576: true; the input reads as it did. -/
def daryLimitsUptoRow : OpenClaim := { program := "yteicchpglnamcaa", sum := "66ffad58fa3bc9c83b1ce11a7f74cc8517fe32e30a3fde3c009bf23cea7906d0", func := "haycock/haycocklaw08.DaryLimits", spec := "daryLimits", unfollowed := true, recurses := true, apart := false, narrowed := true }
def DaryLimitsUptoSaid : Prop := daryLimitsUptoRow.holds Try.pinned (OpenSpec.upto daryLimitsSpec)

end Rows
end Go.Proofs.Yteicchpglnamcaa
