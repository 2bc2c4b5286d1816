/- SyntaxDepths at some of its inputs: the kernel runs the abstract program. -/
import Derived.Test.YthcoldfgpigdhaaGreatDoorZSEv
namespace Go.Zd
open Go.Zd
set_option maxRecDepth 100000
theorem ev3_3 : ev3 3 = true := by kernel_rfl
theorem ev3_11 : ev3 11 = true := by kernel_rfl
theorem ev3_19 : ev3 19 = true := by kernel_rfl
theorem ev3_30 : ev3 30 = true := by kernel_rfl
theorem ev3_38 : ev3 38 = true := by kernel_rfl
theorem ev3_46 : ev3 46 = true := by kernel_rfl
end Go.Zd
