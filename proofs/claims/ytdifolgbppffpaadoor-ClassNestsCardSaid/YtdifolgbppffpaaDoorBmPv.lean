/- The abstract machine: pure values, and the package variables that stay as they are. -/
import Derived.Calls
import Derived.Orders
import Derived.LoopN
import Derived.Tactics
import Derived.KernelRfl
namespace Go.Bm
set_option autoImplicit false
set_option linter.unusedVariables false

/-- Pure values: no address in them. A slice is its length and its elements' cells, by place ('seqk': and whether it is nil). 'bad' tells nothing. -/
inductive PV where
  | bad
  | bool (b : Bool)
  | int (k : IntKind) (n : Int)
  | str (s : ByteArray)
  | seq (n : Nat) (f : Nat → List PV)
  | seqk (b : Bool) (n : Nat) (f : Nat → List PV)
  | fn (f : FuncId)
  | nilFn
  | nilPtr
  | nilIf

/-- Package variables: the cells of each. -/
def globT : Nat → Option (List PV) := fun g => match g with
  | 2 => some [.int .u8 0, .int .u8 1, .int .u8 28, .int .u8 2, .int .u8 29, .int .u8 14, .int .u8 24, .int .u8 3, .int .u8 30, .int .u8 22, .int .u8 20, .int .u8 15, .int .u8 25, .int .u8 17, .int .u8 4, .int .u8 8, .int .u8 31, .int .u8 27, .int .u8 13, .int .u8 23, .int .u8 21, .int .u8 19, .int .u8 16, .int .u8 7, .int .u8 26, .int .u8 12, .int .u8 18, .int .u8 6, .int .u8 11, .int .u8 5, .int .u8 10, .int .u8 9]
  | _ => none

end Go.Bm
