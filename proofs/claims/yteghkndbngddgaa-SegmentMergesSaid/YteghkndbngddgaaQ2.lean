/- Q2: printed by a program of this session: the functions of the seat as plain functions, and that the code comes to them. -/
import Derived.Test.YteghkndbngddgaaA0
import Derived.Test.YteghkndbngddgaaT24
import Derived.Test.YteghkndbngddgaaPuA
/- Plain laws: header pages and node pages are read and written. -/
set_option linter.unusedVariables false
set_option linter.unusedSimpArgs false
namespace Go.Sx
open Go.RowKit
def noPage : Page := (0, 0, List.replicate 7 0, ())
/-! ### Node pages -/
theorem inR_nat {i n : Nat} (h : i < n) : inR (i : Int) n = true := by simp [inR]; omega

/-! ### Node pages, written -/
end Go.Sx

/- Plain laws: what the statements on header and node pages do with their arguments. -/
set_option linter.unusedVariables false
set_option linter.unusedSimpArgs false
namespace Go.Sx
open Go.RowKit
end Go.Sx

/- What has been written is read again: the plain law. -/
set_option linter.unusedVariables false
set_option linter.unusedSimpArgs false
namespace Go.Sx
open Go.RowKit
end Go.Sx

