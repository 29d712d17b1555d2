/- FlowValues: whatever the input, the law returns true, and the input reads as it did. Its conditions: none but the row's own. -/
import Derived.Test.YtldkmmnffjdliaaRows
import Derived.Test.YtldkmmnffjdliaaLawFlow1
import Derived.WalkKit
import Derived.ProofKit
import Derived.OpenShut
import Derived.ShutString
import Derived.ChangeOld
import Derived.Below
import Derived.SizedLaws
namespace Go.Proofs.Ytldkmmnffjdliaa.flowValuesRow_
open Go.ChangeShapes Go.WideShapes Go.ChangeAt Go.RowKit Go.Bm Go.Bm.GoYtldkmmnffjdliaa
set_option linter.unusedVariables false
set_option maxRecDepth 100000
theorem own : ownKnob Try.prog.godebug = none := by kernel_rfl
theorem laidOut : laidOutB Try.prog = true := by kernel_rfl
noncomputable def args : Args Try.prog [35, 28] (flow_Rule × (List (BitVec 32)) × Unit) := Args.cons ty35 (Args.cons ty28 (Args.nil))
theorem returns : ∀ x, args.wf x → Does Try.prog 4 (args.enc x) [] (.pv (.bool true), []) := by
  rintro ⟨x0, x1, ⟨⟩⟩ ⟨h0, h1, _⟩
  have e : args.enc (x0, x1, ()) = [.agg [.pv (.int .i64 x0.to_), .pv (.int .i64 x0.from_), .pv (.int .i64 x0.also), .pv (.int .u32 (BitVec.toNat x0.keep : Nat)), .pv (.int .u32 (BitVec.toNat x0.if_ : Nat)), .pv (.int .u32 (BitVec.toNat x0.then_ : Nat))], .pv (.seq (List.length x1) (encP e_u32 0#32 x1))] := by kernel_rfl
  rw [e]
  exact alibilaw21_FlowValues_ok _ _ true (flowValues x0 x1)
theorem lifted (os : Os) (started : os.Started) (H : Type) (enc : TypeId × Value → H) :
    ReturnsInHanded {} Try.checked os 4 .any (Rows.flowValuesSpec.pre6 enc Try.prog Try.f4 Rows.flowValuesRow.domain false) (Rows.flowValuesSpec.post enc Try.prog Try.f4 false true false false) := by
  refine returnsInHanded_of_change_sized (C := Try.checked) own started (by kernel_rfl) Try.func4
    (ChangeSpec.witness6 (enc := enc) (C := Try.checked) false ⟨#[], #[.agg #[.int .i64 0, .int .i64 0, .int .i64 0, .int .u32 0, .int .u32 0, .int .u32 0], .slice none 0 0], []⟩ 8 (by kernel_rfl) (by kernel_rfl) (by kernel_rfl) (by kernel_rfl)) ?_
  intro W base vs ds gs before hval hW hcnd hsz _
  exact contract_of (C := Try.checked) laidOut (by kernel_rfl) args (fun t ht => by
    simp only [List.mem_cons, List.not_mem_nil, or_false] at ht
    rcases ht with rfl | rfl <;> exact ⟨by kernel_rfl, of_decide_eq_true (by kernel_rfl)⟩) (by kernel_rfl) (bt := 4) Try.underlying4 rfl
    (fun H ds h => by
      match ds, h with
      | [d0, d1], _ => rfl) returns W base vs ds gs before hval hW hsz
theorem over : Rows.flowValuesRow.holds Try.pinned (OpenSpec.ofChange Rows.flowValuesSpec) :=
  OpenClaim.holds_of_wide 4 Try.f4 rfl rfl rfl rfl rfl rfl rfl ⟨rfl, rfl, rfl, rfl, rfl⟩ rfl rfl rfl rfl rfl (by kernel_rfl) Try.func4 (by kernel_rfl)
    (of_decide_eq_true (by kernel_rfl)) (by unfold Func.isWrapper; first | (rw [if_pos (by decide +kernel)]; kernel_rfl) | (rw [if_neg (by decide +kernel)]; exact ⟨rfl, rfl⟩))
    (fun os started H enc _ => lifted os started H enc)
end Go.Proofs.Ytldkmmnffjdliaa.flowValuesRow_
namespace Go.Proofs.Ytldkmmnffjdliaa
/-- The row. -/
theorem flowValues_holds : Rows.FlowValuesSaid := flowValuesRow_.over
#print axioms flowValues_holds
end Go.Proofs.Ytldkmmnffjdliaa
