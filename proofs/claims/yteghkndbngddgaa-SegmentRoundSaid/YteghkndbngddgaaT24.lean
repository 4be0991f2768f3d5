/- T24: printed by a program of this session: the functions of the seat as plain functions, and that the code comes to them. -/
import Derived.Test.YteghkndbngddgaaC24
set_option maxRecDepth 100000
namespace Go.Sx
theorem t1 : law20_awakec = some true := by kernel_rfl
theorem awake20 : law20_awake = some true := law20_awake_le _ t1
end Go.Sx
