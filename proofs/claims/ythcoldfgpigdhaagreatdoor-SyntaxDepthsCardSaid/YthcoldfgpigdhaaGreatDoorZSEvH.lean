/- SyntaxDepths at some of its inputs: the kernel runs the abstract program. -/
import Derived.Test.YthcoldfgpigdhaaGreatDoorZSEv
namespace Go.Zd
open Go.Zd
set_option maxRecDepth 100000
theorem ev3_7 : ev3 7 = true := by kernel_rfl
theorem ev3_15 : ev3 15 = true := by kernel_rfl
theorem ev3_23 : ev3 23 = true := by kernel_rfl
theorem ev3_26 : ev3 26 = true := by kernel_rfl
theorem ev3_34 : ev3 34 = true := by kernel_rfl
theorem ev3_42 : ev3 42 = true := by kernel_rfl
end Go.Zd
