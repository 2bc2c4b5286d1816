/- SyntaxDepths at some of its inputs: the kernel runs the abstract program. -/
import Derived.Test.YthcoldfgpigdhaaGreatDoorZSEv
namespace Go.Zd
open Go.Zd
set_option maxRecDepth 100000
theorem ev3_6 : ev3 6 = true := by kernel_rfl
theorem ev3_14 : ev3 14 = true := by kernel_rfl
theorem ev3_22 : ev3 22 = true := by kernel_rfl
theorem ev3_27 : ev3 27 = true := by kernel_rfl
theorem ev3_35 : ev3 35 = true := by kernel_rfl
theorem ev3_43 : ev3 43 = true := by kernel_rfl
end Go.Zd
