/- FlowMore: whatever the input, the law returns true, and the input reads as it did. Its conditions: none but the row's own. -/
import Derived.Test.YtldkmmnffjdliaaRows
import Derived.Test.YtldkmmnffjdliaaLawFlow9
import Derived.WalkKit
import Derived.ProofKit
import Derived.OpenShut
import Derived.ShutString
import Derived.ChangeOld
import Derived.Below
import Derived.SizedLaws
namespace Go.Proofs.Ytldkmmnffjdliaa.flowMoreRow_
open Go.ChangeShapes Go.WideShapes Go.ChangeAt Go.RowKit Go.Bm Go.Bm.GoYtldkmmnffjdliaa
set_option linter.unusedVariables false
set_option maxRecDepth 100000
theorem own : ownKnob Try.prog.godebug = none := by kernel_rfl
theorem laidOut : laidOutB Try.prog = true := by kernel_rfl
noncomputable def args : Args Try.prog [5, 24, 41, 41] ((BitVec 8) × (BitVec 32) × (List flow_Rule) × (List flow_Rule) × Unit) := Args.cons ty5 (Args.cons ty24 (Args.cons ty41 (Args.cons ty41 (Args.nil))))
theorem returns : ∀ x, args.wf x → Does Try.prog 8 (args.enc x) [] (.pv (.bool true), []) := by
  rintro ⟨x0, x1, x2, x3, ⟨⟩⟩ ⟨h0, h1, h2, h3, _⟩
  have e : args.enc (x0, x1, x2, x3, ()) = [.pv (.int .u8 (BitVec.toNat x0 : Nat)), .pv (.int .u32 (BitVec.toNat x1 : Nat)), .pv (.seq (List.length x2) (encP e_flow_Rule d_flow_Rule x2)), .pv (.seq (List.length x3) (encP e_flow_Rule d_flow_Rule x3))] := by kernel_rfl
  rw [e]
  exact alibilaw21_FlowMore_ok _ _ _ _ true (flowMore x0 x1 x2 x3)
theorem lifted (os : Os) (started : os.Started) (H : Type) (enc : TypeId × Value → H) :
    ReturnsInHanded {} Try.checked os 8 .any (Rows.flowMoreSpec.pre6 enc Try.prog Try.f8 Rows.flowMoreRow.domain false) (Rows.flowMoreSpec.post enc Try.prog Try.f8 false true false false) := by
  refine returnsInHanded_of_change_sized (C := Try.checked) own started (by kernel_rfl) Try.func8
    (ChangeSpec.witness6 (enc := enc) (C := Try.checked) false ⟨#[], #[.int .u8 0, .int .u32 0, .slice none 0 0, .slice none 0 0], []⟩ 8 (by kernel_rfl) (by kernel_rfl) (by kernel_rfl) (by kernel_rfl)) ?_
  intro W base vs ds gs before hval hW hcnd hsz _
  exact contract_of (C := Try.checked) laidOut (by kernel_rfl) args (fun t ht => by
    simp only [List.mem_cons, List.not_mem_nil, or_false] at ht
    rcases ht with rfl | rfl | rfl | rfl <;> exact ⟨by kernel_rfl, of_decide_eq_true (by kernel_rfl)⟩) (by kernel_rfl) (bt := 4) Try.underlying4 rfl
    (fun H ds h => by
      match ds, h with
      | [d0, d1, d2, d3], _ => rfl) returns W base vs ds gs before hval hW hsz
theorem over : Rows.flowMoreRow.holds Try.pinned (OpenSpec.ofChange Rows.flowMoreSpec) :=
  OpenClaim.holds_of_wide 8 Try.f8 rfl rfl rfl rfl rfl rfl rfl ⟨rfl, rfl, rfl, rfl, rfl⟩ rfl rfl rfl rfl rfl (by kernel_rfl) Try.func8 (by kernel_rfl)
    (of_decide_eq_true (by kernel_rfl)) (by unfold Func.isWrapper; first | (rw [if_pos (by decide +kernel)]; kernel_rfl) | (rw [if_neg (by decide +kernel)]; exact ⟨rfl, rfl⟩))
    (fun os started H enc _ => lifted os started H enc)
end Go.Proofs.Ytldkmmnffjdliaa.flowMoreRow_
namespace Go.Proofs.Ytldkmmnffjdliaa
/-- The row. -/
theorem flowMore_holds : Rows.FlowMoreSaid := flowMoreRow_.over
#print axioms flowMore_holds
end Go.Proofs.Ytldkmmnffjdliaa
