/- The abstract machine: pure values, and the package variables that stay as they are. -/
import Derived.Calls
import Derived.Orders
import Derived.LoopN
import Derived.Tactics
import Derived.KernelRfl
namespace Go.Bm
set_option autoImplicit false
set_option linter.unusedVariables false

/-- Pure values: no address in them. A slice is its length and its elements' cells, by place ('seqk': and whether it is nil). 'bad' tells nothing. -/
inductive PV where
  | bad
  | bool (b : Bool)
  | int (k : IntKind) (n : Int)
  | str (s : ByteArray)
  | seq (n : Nat) (f : Nat → List PV)
  | seqk (b : Bool) (n : Nat) (f : Nat → List PV)
  | fn (f : FuncId)
  | nilFn
  | nilPtr
  | nilIf

/-- Package variables: the cells of each. -/
def globT : Nat → Option (List PV) := fun _ => none

end Go.Bm
