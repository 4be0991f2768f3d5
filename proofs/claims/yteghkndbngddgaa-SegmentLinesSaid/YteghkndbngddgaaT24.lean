/- T24: printed by a program of this session: the functions of the seat as plain functions, and that the code comes to them. -/
import Derived.Test.YteghkndbngddgaaC24
set_option maxRecDepth 100000
namespace Go.Sx
theorem t1 : f24c = some true := by kernel_rfl
theorem awake20 : f24 = some true := f24_le _ t1
end Go.Sx
