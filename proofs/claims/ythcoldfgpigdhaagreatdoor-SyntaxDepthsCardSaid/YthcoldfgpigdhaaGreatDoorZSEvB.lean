/- SyntaxDepths at some of its inputs: the kernel runs the abstract program. -/
import Derived.Test.YthcoldfgpigdhaaGreatDoorZSEv
namespace Go.Zd
open Go.Zd
set_option maxRecDepth 100000
theorem ev3_1 : ev3 1 = true := by kernel_rfl
theorem ev3_9 : ev3 9 = true := by kernel_rfl
theorem ev3_17 : ev3 17 = true := by kernel_rfl
theorem ev3_32 : ev3 32 = true := by kernel_rfl
theorem ev3_40 : ev3 40 = true := by kernel_rfl
theorem ev3_48 : ev3 48 = true := by kernel_rfl
end Go.Zd
