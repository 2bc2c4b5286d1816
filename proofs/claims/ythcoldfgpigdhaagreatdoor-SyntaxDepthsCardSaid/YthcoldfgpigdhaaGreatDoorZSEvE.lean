/- SyntaxDepths at some of its inputs: the kernel runs the abstract program. -/
import Derived.Test.YthcoldfgpigdhaaGreatDoorZSEv
namespace Go.Zd
open Go.Zd
set_option maxRecDepth 100000
theorem ev3_4 : ev3 4 = true := by kernel_rfl
theorem ev3_12 : ev3 12 = true := by kernel_rfl
theorem ev3_20 : ev3 20 = true := by kernel_rfl
theorem ev3_29 : ev3 29 = true := by kernel_rfl
theorem ev3_37 : ev3 37 = true := by kernel_rfl
theorem ev3_45 : ev3 45 = true := by kernel_rfl
end Go.Zd
