/- SyntaxDepths at some of its inputs: the kernel runs the abstract program. -/
import Derived.Test.YthcoldfgpigdhaaGreatDoorZSEv
namespace Go.Zd
open Go.Zd
set_option maxRecDepth 100000
theorem ev3_2 : ev3 2 = true := by kernel_rfl
theorem ev3_10 : ev3 10 = true := by kernel_rfl
theorem ev3_18 : ev3 18 = true := by kernel_rfl
theorem ev3_31 : ev3 31 = true := by kernel_rfl
theorem ev3_39 : ev3 39 = true := by kernel_rfl
theorem ev3_47 : ev3 47 = true := by kernel_rfl
end Go.Zd
