/- SyntaxDepths at some of its inputs: the kernel runs the abstract program. -/
import Derived.Test.YthcoldfgpigdhaaGreatDoorZSEv
namespace Go.Zd
open Go.Zd
set_option maxRecDepth 100000
theorem ev3_5 : ev3 5 = true := by kernel_rfl
theorem ev3_13 : ev3 13 = true := by kernel_rfl
theorem ev3_21 : ev3 21 = true := by kernel_rfl
theorem ev3_28 : ev3 28 = true := by kernel_rfl
theorem ev3_36 : ev3 36 = true := by kernel_rfl
theorem ev3_44 : ev3 44 = true := by kernel_rfl
end Go.Zd
