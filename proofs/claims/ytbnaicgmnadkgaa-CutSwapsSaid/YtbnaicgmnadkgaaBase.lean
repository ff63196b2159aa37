/-
  Short words for values.
-/
import Derived.Test.YtbnaicgmnadkgaaA1
import Derived.Test.YtbnaicgmnadkgaaLib
set_option linter.unusedVariables false
set_option linter.unusedSimpArgs false
namespace Go.Proofs.Ytbnaicgmnadkgaa
open Go Go.Vc

abbrev i64 (n : Int) : Value := .int .i64 n
abbrev ptr (b : Nat) : Value := .pointer (some ⟨b, 0, none⟩)
abbrev u64 (n : Int) : Value := .int .u64 n
abbrev ent (k s : Int) : Value := .agg [i64 k, u64 s].toArray

end Go.Proofs.Ytbnaicgmnadkgaa
