/- GraphNodes: whatever the input, the law returns true, and the input reads as it did. Its conditions: none but the row's own. -/
import Derived.Test.YtldkmmnffjdliaaRows
import Derived.Test.YtldkmmnffjdliaaGLawGraph1
import Derived.WalkKit
import Derived.ProofKit
import Derived.OpenShut
import Derived.ShutString
import Derived.ChangeOld
import Derived.Below
import Derived.SizedLaws
namespace Go.Proofs.Ytldkmmnffjdliaa.graphNodesRow_
open Go.ChangeShapes Go.WideShapes Go.ChangeAt Go.RowKit Go.Bm Go.Bm.GoYtldkmmnffjdliaa
set_option linter.unusedVariables false
set_option maxRecDepth 100000
theorem own : ownKnob Try.prog.godebug = none := by kernel_rfl
theorem laidOut : laidOutB Try.prog = true := by kernel_rfl
noncomputable def args : Args Try.prog [61, 26] ((List api_Node) × (List Int) × Unit) := Args.cons ty61 (Args.cons ty26 (Args.nil))
theorem returns : ∀ x, args.wf x → Does Try.prog 11 (args.enc x) [] (.pv (.bool true), []) := by
  rintro ⟨x0, x1, ⟨⟩⟩ ⟨h0, h1, _⟩
  have e : args.enc (x0, x1, ()) = [.pv (.seq (List.length x0) (encP e_api_Node d_api_Node x0)), .pv (.seq (List.length x1) (encP e_i64 0 x1))] := by kernel_rfl
  rw [e]
  exact alibilaw06_GraphNodes_ok _ _ true (graphNodes x0 x1)
theorem lifted (os : Os) (started : os.Started) (H : Type) (enc : TypeId × Value → H) :
    ReturnsInHanded {} Try.checked os 11 .any (Rows.graphNodesSpec.pre6 enc Try.prog Try.f11 Rows.graphNodesRow.domain false) (Rows.graphNodesSpec.post enc Try.prog Try.f11 false true false false) := by
  refine returnsInHanded_of_change_sized (C := Try.checked) own started (by kernel_rfl) Try.func11
    (ChangeSpec.witness6 (enc := enc) (C := Try.checked) false ⟨#[], #[.slice none 0 0, .slice none 0 0], []⟩ 8 (by kernel_rfl) (by kernel_rfl) (by kernel_rfl) (by kernel_rfl)) ?_
  intro W base vs ds gs before hval hW hcnd hsz _
  exact contract_of (C := Try.checked) laidOut (by kernel_rfl) args (fun t ht => by
    simp only [List.mem_cons, List.not_mem_nil, or_false] at ht
    rcases ht with rfl | rfl <;> exact ⟨by kernel_rfl, of_decide_eq_true (by kernel_rfl)⟩) (by kernel_rfl) (bt := 4) Try.underlying4 rfl
    (fun H ds h => by
      match ds, h with
      | [d0, d1], _ => rfl) returns W base vs ds gs before hval hW hsz
theorem laid : laidOutB Try.pinned.checked.prog = true := by kernel_rfl
theorem mapsR : mapsRowed Try.pinned.checked.prog = true := by kernel_rfl
theorem inPl : (Rows.graphNodesRow.inPlace == Try.pinned.checked.prog.inPlace 11) = true := by kernel_rfl
theorem unf : (Rows.graphNodesRow.unfollowed == Try.pinned.checked.prog.unfollowed 11) = true := by kernel_rfl
theorem recs : (Rows.graphNodesRow.recurses == Try.pinned.checked.prog.recurses 11) = true := by kernel_rfl
theorem namd : (Rows.graphNodesRow.named == Try.pinned.checked.prog.varsNamed 11) = true := by kernel_rfl
theorem closed : joinedFacts Try.pinned.checked.prog 11 Try.f11 Rows.graphNodesSpec Rows.graphNodesRow = true := by
  unfold joinedFacts
  simp only [Bool.and_eq_true]
  exact ⟨⟨⟨⟨⟨⟨⟨⟨⟨⟨⟨⟨⟨⟨⟨⟨⟨⟨⟨⟨⟨⟨⟨⟨⟨⟨⟨⟨⟨⟨⟨(by kernel_rfl), laid⟩, mapsR⟩, (by kernel_rfl)⟩, (by kernel_rfl)⟩, (by kernel_rfl)⟩, (by kernel_rfl)⟩, (by kernel_rfl)⟩, (by kernel_rfl)⟩, inPl⟩, unf⟩, recs⟩, namd⟩, (by kernel_rfl)⟩, (by kernel_rfl)⟩, (by kernel_rfl)⟩, (by kernel_rfl)⟩, (by kernel_rfl)⟩, (by kernel_rfl)⟩, (by kernel_rfl)⟩, (by kernel_rfl)⟩, (by kernel_rfl)⟩, (by kernel_rfl)⟩, (by kernel_rfl)⟩, (by kernel_rfl)⟩, (by kernel_rfl)⟩, (by kernel_rfl)⟩, (by kernel_rfl)⟩, (by kernel_rfl)⟩, (by kernel_rfl)⟩, (by kernel_rfl)⟩, (by kernel_rfl)⟩
theorem over : Rows.graphNodesRow.holds Try.pinned (OpenSpec.ofChange Rows.graphNodesSpec) :=
  OpenClaim.holds_of_wide 11 Try.f11 rfl rfl rfl rfl rfl rfl rfl ⟨rfl, rfl, rfl, rfl, rfl⟩ rfl rfl rfl rfl rfl (by kernel_rfl) Try.func11 closed
    (of_decide_eq_true (by kernel_rfl)) (by unfold Func.isWrapper; first | (rw [if_pos (by decide +kernel)]; kernel_rfl) | (rw [if_neg (by decide +kernel)]; exact ⟨rfl, rfl⟩))
    (fun os started H enc _ => lifted os started H enc)
end Go.Proofs.Ytldkmmnffjdliaa.graphNodesRow_
namespace Go.Proofs.Ytldkmmnffjdliaa
/-- The row. -/
theorem graphNodes_holds : Rows.GraphNodesSaid := graphNodesRow_.over
#print axioms graphNodes_holds
end Go.Proofs.Ytldkmmnffjdliaa
