/- MayBehind: whatever the input, the law returns true, and the input reads as it did. Its conditions: none but the row's own. -/
import Derived.Test.YtldkmmnffjdliaaRows
import Derived.Test.YtldkmmnffjdliaaMayBehind
import Derived.WalkKit
import Derived.ProofKit
import Derived.OpenShut
import Derived.ShutString
import Derived.ChangeOld
import Derived.Below
import Derived.SizedLaws
namespace Go.Proofs.Ytldkmmnffjdliaa.mayBehindRow_
open Go.ChangeShapes Go.WideShapes Go.ChangeAt Go.RowKit Go.Am Go.Am.GoYtldkmmnffjdliaa
set_option linter.unusedVariables false
set_option maxRecDepth 100000
theorem own : ownKnob Try.prog.godebug = none := by kernel_rfl
theorem laidOut : laidOutB Try.prog = true := by kernel_rfl
theorem mixed : Try.prog.follows .mixedOrders = true := by kernel_rfl
noncomputable def args : Args Try.prog [23, 24, 24, 3, 4, 3] (G22 × Int × Int × Int × Bool × Int × Unit) := Args.cons ty23 (Args.cons ty24 (Args.cons ty24 (Args.cons ty3 (Args.cons ty4 (Args.cons ty3 (Args.nil))))))
theorem returns : ∀ x, args.wf x → Does Try.prog lives 3 (args.enc x) [] (.pv (.bool true), []) := by
  rintro ⟨x0, x1, x2, x3, x4, x5, ⟨⟩⟩ ⟨h0, h1, h2, h3, h4, h5, _⟩
  have e : args.enc (x0, x1, x2, x3, x4, x5, ()) = [.agg [.pv (.int .i64 x0.kind), .pv (.int .i64 x0.arg), .pv (.int .i64 x0.next), .pv (.int .i64 x0.alt)], .pv (.int .u32 x1), .pv (.int .u32 x2), .pv (.int .i64 x3), .pv (.bool x4), .pv (.int .i64 x5)] := by kernel_rfl
  rw [e]
  obtain ⟨a, rfl, ha⟩ := u32_cases h1
  obtain ⟨b, rfl, hb⟩ := u32_cases h2
  exact go3_ok 100 _ _ _ _ _ _ true (law x0 a b ha hb x3 x4 x5)
theorem lifted (os : Os) (started : os.Started) (H : Type) (enc : TypeId × Value → H) :
    ReturnsInHanded {} Try.checked os 3 .any (Rows.mayBehindSpec.pre6 enc Try.prog Try.f3 Rows.mayBehindRow.domain false) (Rows.mayBehindSpec.post enc Try.prog Try.f3 false true false false) := by
  refine returnsInHanded_of_change_sized (C := Try.checked) own started (by kernel_rfl) Try.func3
    (ChangeSpec.witness6 (enc := enc) (C := Try.checked) false ⟨#[], #[.agg #[.int .i64 0, .int .i64 0, .int .i64 0, .int .i64 0], .int .u32 0, .int .u32 0, .int .i64 0, .bool false, .int .i64 0], []⟩ 8 (by kernel_rfl) (by kernel_rfl) (by kernel_rfl) (by kernel_rfl)) ?_
  intro W base vs ds gs before hval hW hcnd hsz _
  exact contract_of (C := Try.checked) (L := lives) mixed laidOut (by kernel_rfl) args (fun t ht => by
    simp only [List.mem_cons, List.not_mem_nil, or_false] at ht
    rcases ht with rfl | rfl | rfl | rfl | rfl | rfl <;> exact ⟨by kernel_rfl, of_decide_eq_true (by kernel_rfl)⟩) (by kernel_rfl) (bt := 4) Try.underlying4 rfl
    (fun H ds h => by
      match ds, h with
      | [d0, d1, d2, d3, d4, d5], _ => rfl) returns W base vs ds gs before hval hW hsz
theorem over : Rows.mayBehindRow.holds Try.pinned (OpenSpec.ofChange Rows.mayBehindSpec) :=
  OpenClaim.holds_of_wide 3 Try.f3 rfl rfl rfl rfl rfl rfl rfl ⟨rfl, rfl, rfl, rfl, rfl⟩ rfl rfl rfl rfl rfl (by kernel_rfl) Try.func3 (by kernel_rfl)
    (of_decide_eq_true (by kernel_rfl)) (by unfold Func.isWrapper; first | (rw [if_pos (by decide +kernel)]; kernel_rfl) | (rw [if_neg (by decide +kernel)]; exact ⟨rfl, rfl⟩))
    (fun os started H enc _ => lifted os started H enc)
end Go.Proofs.Ytldkmmnffjdliaa.mayBehindRow_
namespace Go.Proofs.Ytldkmmnffjdliaa
/-- The row. -/
theorem mayBehind_holds : Rows.MayBehindSaid := mayBehindRow_.over
#print axioms mayBehind_holds
end Go.Proofs.Ytldkmmnffjdliaa
