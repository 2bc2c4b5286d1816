/- SyntaxDepths reads its number modulo fifty. -/
import Derived.Test.YthcoldfgpigdhaaGreatDoorZSClq
namespace Go.Zd
open Go.Zd Fast
set_option maxRecDepth 100000

def R0 : DCode := region [⟨0,some 2,none,.move (.k (.bool false))⟩] (some [0]) [] false
def R1 : DCode := region [⟨0,some 18,none,.move (t 0)⟩,⟨1,some 19,none,.bin 0 .rem (t 18) (.k (.int .u8 50))⟩,⟨2,some 20,none,.conv .i64 (t 19)⟩,⟨3,some 3,none,.move (t 20)⟩] (some [3]) [] false
def rest3 : DCode := match d3 with
  | .code (.seq _ (.seq _ r)) _ _ => r
  | _ => .skip

theorem d3_eq : d3 = .code (.seq R0 (.seq R1 rest3)) [.tmp 2] false := rfl

theorem red3 (F : Nat → Option DFn) (rec : Rec) (c : DCode) (k r : Nat) (hr : k % 50 = r) :
    execB F rec [] (.seq R0 (.seq R1 c)) ⟨enterTm [.int .u8 k], []⟩ = execB F rec [] c ⟨[(3, .int .i64 r)], []⟩ := by
  have ht : (k : Int).tmod 50 = r := by
    rw [← hr]; rfl
  have hw : IntKind.wrap .i64 (r : Int) = r := wrap_nat (by omega)
  simp [R0, R1, hw, ht, Fast.nat_beq, execB, runIns, stepIns, opDV, pureOp, protL, look, enterTm, rdc, restrict, setDst, putV, DV.clean1, binDV, intOp]

end Go.Zd
