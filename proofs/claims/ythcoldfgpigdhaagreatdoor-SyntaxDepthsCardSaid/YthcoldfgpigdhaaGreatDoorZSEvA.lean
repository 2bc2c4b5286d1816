/- SyntaxDepths at some of its inputs: the kernel runs the abstract program. -/
import Derived.Test.YthcoldfgpigdhaaGreatDoorZSEv
namespace Go.Zd
open Go.Zd
set_option maxRecDepth 100000
theorem ev3_0 : ev3 0 = true := by kernel_rfl
theorem ev3_8 : ev3 8 = true := by kernel_rfl
theorem ev3_16 : ev3 16 = true := by kernel_rfl
theorem ev3_24 : ev3 24 = true := by kernel_rfl
theorem ev3_25 : ev3 25 = true := by kernel_rfl
theorem ev3_33 : ev3 33 = true := by kernel_rfl
theorem ev3_41 : ev3 41 = true := by kernel_rfl
theorem ev3_49 : ev3 49 = true := by kernel_rfl
end Go.Zd
