/- What the abstract run makes of an input of PrinterCases. -/
import Derived.Test.YthcoldfgpigdhaaGreatDoorZPLeaf
import Derived.Test.YthcoldfgpigdhaaGreatDoorZF
import Derived.KernelRfl
namespace Go.Zd
open Go.Zd

def isTrueO : Option (Out × List (List DV)) → Bool
  | some (.ret (.bool true), _) => true
  | _ => false
noncomputable def ev4 (r : Nat) (a b : Bool) : Bool := isTrueO (Fast.callN FC 100000 [] 4 [.int .u8 r, .bool a, .bool b] [])
end Go.Zd
