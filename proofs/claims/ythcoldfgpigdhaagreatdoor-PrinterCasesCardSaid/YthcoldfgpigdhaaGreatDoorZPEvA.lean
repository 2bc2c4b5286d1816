/- PrinterCases at seven of its inputs: the kernel runs the abstract program. -/
import Derived.Test.YthcoldfgpigdhaaGreatDoorZPEv
namespace Go.Zd
open Go.Zd
set_option maxRecDepth 100000
theorem ev4_0_0 : ev4 0 false false = true := by kernel_rfl
theorem ev4_1_0 : ev4 1 false false = true := by kernel_rfl
theorem ev4_2_0 : ev4 2 false false = true := by kernel_rfl
theorem ev4_3_0 : ev4 3 false false = true := by kernel_rfl
theorem ev4_4_0 : ev4 4 false false = true := by kernel_rfl
theorem ev4_5_0 : ev4 5 false false = true := by kernel_rfl
theorem ev4_6_0 : ev4 6 false false = true := by kernel_rfl
end Go.Zd
