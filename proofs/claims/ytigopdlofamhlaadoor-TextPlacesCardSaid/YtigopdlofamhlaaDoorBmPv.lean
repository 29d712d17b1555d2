/- The abstract machine: pure values, and the package variables that stay as they are. -/
import Derived.Calls
import Derived.Orders
import Derived.LoopN
import Derived.Tactics
import Derived.KernelRfl
namespace Go.Bm
set_option autoImplicit false
set_option linter.unusedVariables false

/-- Pure values: no address in them. A slice is its length and its elements' cells, by place ('seqk': and whether it is nil). 'bad' tells nothing. -/
inductive PV where
  | bad
  | bool (b : Bool)
  | int (k : IntKind) (n : Int)
  | str (s : ByteArray)
  | seq (n : Nat) (f : Nat → List PV)
  | seqk (b : Bool) (n : Nat) (f : Nat → List PV)
  | fn (f : FuncId)
  | nilFn
  | nilPtr
  | nilIf

/-- Package variables: the cells of each. -/
def globT : Nat → Option (List PV) := fun g => match g with
  | 0 => some [.str (ByteArray.mk #[115, 107, 105, 112]), .str (ByteArray.mk #[114, 101, 97, 100]), .str (ByteArray.mk #[119, 114, 105, 116, 101]), .str (ByteArray.mk #[108, 111, 99, 107]), .str (ByteArray.mk #[117, 110, 108, 111, 99, 107]), .str (ByteArray.mk #[115, 112, 97, 119, 110]), .str (ByteArray.mk #[106, 111, 105, 110]), .str (ByteArray.mk #[99, 97, 108, 108]), .str (ByteArray.mk #[98, 114, 97, 110, 99, 104]), .str (ByteArray.mk #[114, 101, 116, 117, 114, 110])]
  | _ => none

end Go.Bm
