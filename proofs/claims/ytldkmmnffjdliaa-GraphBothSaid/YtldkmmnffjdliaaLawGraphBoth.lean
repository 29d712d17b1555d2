/- GraphBoth: whatever the input, the law returns true, and the input reads as it did. Its conditions: none but the row's own. -/
import Derived.Test.YtldkmmnffjdliaaRows
import Derived.Test.YtldkmmnffjdliaaGLawGraph1
import Derived.WalkKit
import Derived.ProofKit
import Derived.OpenShut
import Derived.ShutString
import Derived.ChangeOld
import Derived.Below
import Derived.SizedLaws
namespace Go.Proofs.Ytldkmmnffjdliaa.graphBothRow_
open Go.ChangeShapes Go.WideShapes Go.ChangeAt Go.RowKit Go.Bm Go.Bm.GoYtldkmmnffjdliaa
set_option linter.unusedVariables false
set_option maxRecDepth 100000
theorem own : ownKnob Try.prog.godebug = none := by kernel_rfl
theorem laidOut : laidOutB Try.prog = true := by kernel_rfl
noncomputable def args : Args Try.prog [61, 26, 26] ((List api_Node) × (List Int) × (List Int) × Unit) := Args.cons ty61 (Args.cons ty26 (Args.cons ty26 (Args.nil)))
theorem returns : ∀ x, args.wf x → Does Try.prog 10 (args.enc x) [] (.pv (.bool true), []) := by
  rintro ⟨x0, x1, x2, ⟨⟩⟩ ⟨h0, h1, h2, _⟩
  have e : args.enc (x0, x1, x2, ()) = [.pv (.seq (List.length x0) (encP e_api_Node d_api_Node x0)), .pv (.seq (List.length x1) (encP e_i64 0 x1)), .pv (.seq (List.length x2) (encP e_i64 0 x2))] := by kernel_rfl
  rw [e]
  exact alibilaw06_GraphBoth_ok _ _ _ true (graphBoth x0 x1 x2)
theorem lifted (os : Os) (started : os.Started) (H : Type) (enc : TypeId × Value → H) :
    ReturnsInHanded {} Try.checked os 10 .any (Rows.graphBothSpec.pre6 enc Try.prog Try.f10 Rows.graphBothRow.domain false) (Rows.graphBothSpec.post enc Try.prog Try.f10 false true false false) := by
  refine returnsInHanded_of_change_sized (C := Try.checked) own started (by kernel_rfl) Try.func10
    (ChangeSpec.witness6 (enc := enc) (C := Try.checked) false ⟨#[], #[.slice none 0 0, .slice none 0 0, .slice none 0 0], []⟩ 8 (by kernel_rfl) (by kernel_rfl) (by kernel_rfl) (by kernel_rfl)) ?_
  intro W base vs ds gs before hval hW hcnd hsz _
  exact contract_of (C := Try.checked) laidOut (by kernel_rfl) args (fun t ht => by
    simp only [List.mem_cons, List.not_mem_nil, or_false] at ht
    rcases ht with rfl | rfl | rfl <;> exact ⟨by kernel_rfl, of_decide_eq_true (by kernel_rfl)⟩) (by kernel_rfl) (bt := 4) Try.underlying4 rfl
    (fun H ds h => by
      match ds, h with
      | [d0, d1, d2], _ => rfl) returns W base vs ds gs before hval hW hsz
theorem laid : laidOutB Try.pinned.checked.prog = true := by kernel_rfl
theorem mapsR : mapsRowed Try.pinned.checked.prog = true := by kernel_rfl
theorem inPl : (Rows.graphBothRow.inPlace == Try.pinned.checked.prog.inPlace 10) = true := by kernel_rfl
theorem unf : (Rows.graphBothRow.unfollowed == Try.pinned.checked.prog.unfollowed 10) = true := by kernel_rfl
theorem recs : (Rows.graphBothRow.recurses == Try.pinned.checked.prog.recurses 10) = true := by kernel_rfl
theorem namd : (Rows.graphBothRow.named == Try.pinned.checked.prog.varsNamed 10) = true := by kernel_rfl
theorem closed : joinedFacts Try.pinned.checked.prog 10 Try.f10 Rows.graphBothSpec Rows.graphBothRow = true := by
  unfold joinedFacts
  simp only [Bool.and_eq_true]
  exact ⟨⟨⟨⟨⟨⟨⟨⟨⟨⟨⟨⟨⟨⟨⟨⟨⟨⟨⟨⟨⟨⟨⟨⟨⟨⟨⟨⟨⟨⟨⟨(by kernel_rfl), laid⟩, mapsR⟩, (by kernel_rfl)⟩, (by kernel_rfl)⟩, (by kernel_rfl)⟩, (by kernel_rfl)⟩, (by kernel_rfl)⟩, (by kernel_rfl)⟩, inPl⟩, unf⟩, recs⟩, namd⟩, (by kernel_rfl)⟩, (by kernel_rfl)⟩, (by kernel_rfl)⟩, (by kernel_rfl)⟩, (by kernel_rfl)⟩, (by kernel_rfl)⟩, (by kernel_rfl)⟩, (by kernel_rfl)⟩, (by kernel_rfl)⟩, (by kernel_rfl)⟩, (by kernel_rfl)⟩, (by kernel_rfl)⟩, (by kernel_rfl)⟩, (by kernel_rfl)⟩, (by kernel_rfl)⟩, (by kernel_rfl)⟩, (by kernel_rfl)⟩, (by kernel_rfl)⟩, (by kernel_rfl)⟩
theorem over : Rows.graphBothRow.holds Try.pinned (OpenSpec.ofChange Rows.graphBothSpec) :=
  OpenClaim.holds_of_wide 10 Try.f10 rfl rfl rfl rfl rfl rfl rfl ⟨rfl, rfl, rfl, rfl, rfl⟩ rfl rfl rfl rfl rfl (by kernel_rfl) Try.func10 closed
    (of_decide_eq_true (by kernel_rfl)) (by unfold Func.isWrapper; first | (rw [if_pos (by decide +kernel)]; kernel_rfl) | (rw [if_neg (by decide +kernel)]; exact ⟨rfl, rfl⟩))
    (fun os started H enc _ => lifted os started H enc)
end Go.Proofs.Ytldkmmnffjdliaa.graphBothRow_
namespace Go.Proofs.Ytldkmmnffjdliaa
/-- The row. -/
theorem graphBoth_holds : Rows.GraphBothSaid := graphBothRow_.over
#print axioms graphBoth_holds
end Go.Proofs.Ytldkmmnffjdliaa
