/- What the abstract run makes of an input of SyntaxDepths. -/
import Derived.Test.YthcoldfgpigdhaaGreatDoorZSClq
import Derived.Test.YthcoldfgpigdhaaGreatDoorZF
import Derived.KernelRfl
namespace Go.Zd
open Go.Zd

def isTrueO : Option (Out × List (List DV)) → Bool
  | some (.ret (.bool true), _) => true
  | _ => false
noncomputable def ev3 (r : Nat) : Bool := isTrueO (Fast.callN FD 100000 [] 3 [.int .u8 r] [])
end Go.Zd
