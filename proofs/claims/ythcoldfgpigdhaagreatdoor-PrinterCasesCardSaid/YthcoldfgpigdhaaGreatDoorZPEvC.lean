/- PrinterCases at seven of its inputs: the kernel runs the abstract program. -/
import Derived.Test.YthcoldfgpigdhaaGreatDoorZPEv
namespace Go.Zd
open Go.Zd
set_option maxRecDepth 100000
theorem ev4_0_2 : ev4 0 true false = true := by kernel_rfl
theorem ev4_1_2 : ev4 1 true false = true := by kernel_rfl
theorem ev4_2_2 : ev4 2 true false = true := by kernel_rfl
theorem ev4_3_2 : ev4 3 true false = true := by kernel_rfl
theorem ev4_4_2 : ev4 4 true false = true := by kernel_rfl
theorem ev4_5_2 : ev4 5 true false = true := by kernel_rfl
theorem ev4_6_2 : ev4 6 true false = true := by kernel_rfl
end Go.Zd
