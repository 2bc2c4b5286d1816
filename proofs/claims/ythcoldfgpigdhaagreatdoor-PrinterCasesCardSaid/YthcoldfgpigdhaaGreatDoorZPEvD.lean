/- PrinterCases at seven of its inputs: the kernel runs the abstract program. -/
import Derived.Test.YthcoldfgpigdhaaGreatDoorZPEv
namespace Go.Zd
open Go.Zd
set_option maxRecDepth 100000
theorem ev4_0_3 : ev4 0 true true = true := by kernel_rfl
theorem ev4_1_3 : ev4 1 true true = true := by kernel_rfl
theorem ev4_2_3 : ev4 2 true true = true := by kernel_rfl
theorem ev4_3_3 : ev4 3 true true = true := by kernel_rfl
theorem ev4_4_3 : ev4 4 true true = true := by kernel_rfl
theorem ev4_5_3 : ev4 5 true true = true := by kernel_rfl
theorem ev4_6_3 : ev4 6 true true = true := by kernel_rfl
end Go.Zd
