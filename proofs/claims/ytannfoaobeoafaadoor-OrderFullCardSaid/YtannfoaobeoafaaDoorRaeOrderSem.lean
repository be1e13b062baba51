/- The program's calls, without a bound. -/
import Derived.Test.YtannfoaobeoafaaDoorRaeLib
import Derived.Test.YtannfoaobeoafaaDoorRaeOrderIr
import Derived.Test.YtannfoaobeoafaaDoorRaeWJ
set_option linter.unusedVariables false
set_option linter.unusedSimpArgs false
namespace Go.Rae.Order

def puL : List Bool := [true, false, true, true, true, true, true, true, true, true, true, true, true, true, true, true, true, false, false, false, false, true, false, false, true, true, false, true, true, true, false, true, true, true]
def pu (k : Nat) : Bool := nth puL k false

def ext : Orc := fun f args h =>
  bif Nat.beq f 49 then cutO args h else bif Nat.beq f 48 then joinO args h else bif Nat.beq f 72 then digO args h else none

def bodies (f : Nat) : Option IFn := bif Nat.beq f 48 then none else bif Nat.beq f 49 then none else bif Nat.beq f 72 then none else nth bodyL f none

/-- What a call of the program answers. -/
noncomputable def CL : Orc := lim pu bodies ext
end Go.Rae.Order
