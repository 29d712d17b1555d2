/- Numbers that rise. -/
import Derived.Test.YtldkmmnffjdliaaGLawSets0
namespace Go.Bm.GoYtldkmmnffjdliaa
set_option autoImplicit false
set_option linter.unusedVariables false
set_option linter.unusedSimpArgs false
set_option maxRecDepth 100000
/-- Numbers that rise, from some on to below 32. -/
def Rises : Nat → List Int → Prop
  | _, [] => True
  | n, x :: l => (n : Int) ≤ x ∧ x < 32 ∧ Rises (x.toNat + 1) l
end Go.Bm.GoYtldkmmnffjdliaa
