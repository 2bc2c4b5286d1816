/- PrinterCases at seven of its inputs: the kernel runs the abstract program. -/
import Derived.Test.YthcoldfgpigdhaaGreatDoorZPEv
namespace Go.Zd
open Go.Zd
set_option maxRecDepth 100000
theorem ev4_0_1 : ev4 0 false true = true := by kernel_rfl
theorem ev4_1_1 : ev4 1 false true = true := by kernel_rfl
theorem ev4_2_1 : ev4 2 false true = true := by kernel_rfl
theorem ev4_3_1 : ev4 3 false true = true := by kernel_rfl
theorem ev4_4_1 : ev4 4 false true = true := by kernel_rfl
theorem ev4_5_1 : ev4 5 false true = true := by kernel_rfl
theorem ev4_6_1 : ev4 6 false true = true := by kernel_rfl
end Go.Zd
