/- GraphOrders: whatever the input, the law returns true, and the input reads as it did. Its conditions: none but the row's own. -/
import Derived.Test.YtldkmmnffjdliaaRows
import Derived.Test.YtldkmmnffjdliaaGLawGraph2
import Derived.WalkKit
import Derived.ProofKit
import Derived.OpenShut
import Derived.ShutString
import Derived.ChangeOld
import Derived.Below
import Derived.SizedLaws
namespace Go.Proofs.Ytldkmmnffjdliaa.graphOrdersRow_
open Go.ChangeShapes Go.WideShapes Go.ChangeAt Go.RowKit Go.Bm Go.Bm.GoYtldkmmnffjdliaa
set_option linter.unusedVariables false
set_option maxRecDepth 100000
theorem own : ownKnob Try.prog.godebug = none := by kernel_rfl
theorem laidOut : laidOutB Try.prog = true := by kernel_rfl
noncomputable def args : Args Try.prog [53] (api_Program × Unit) := Args.cons ty53 (Args.nil)
theorem returns : ∀ x, args.wf x → Does Try.prog 9 (args.enc x) [] (.pv (.bool true), []) := by
  rintro ⟨x0, ⟨⟩⟩ ⟨h0, _⟩
  have e : args.enc (x0, ()) = [.agg [.pv (.int .i64 x0.globals), .pv (.int .i64 x0.locks), .pv (.int .i64 x0.slots), .pv (.seq (List.length x0.funcs) (encP e_61 ([] : List api_Node) x0.funcs))]] := by kernel_rfl
  rw [e]
  exact alibilaw06_GraphOrders_ok _ true (graphOrders x0)
theorem lifted (os : Os) (started : os.Started) (H : Type) (enc : TypeId × Value → H) :
    ReturnsInHanded {} Try.checked os 9 .any (Rows.graphOrdersSpec.pre6 enc Try.prog Try.f9 Rows.graphOrdersRow.domain false) (Rows.graphOrdersSpec.post enc Try.prog Try.f9 false true false false) := by
  refine returnsInHanded_of_change_sized (C := Try.checked) own started (by kernel_rfl) Try.func9
    (ChangeSpec.witness6 (enc := enc) (C := Try.checked) false ⟨#[], #[.agg #[.int .i64 0, .int .i64 0, .int .i64 0, .slice none 0 0]], []⟩ 8 (by kernel_rfl) (by kernel_rfl) (by kernel_rfl) (by kernel_rfl)) ?_
  intro W base vs ds gs before hval hW hcnd hsz _
  exact contract_of (C := Try.checked) laidOut (by kernel_rfl) args (fun t ht => by
    simp only [List.mem_cons, List.not_mem_nil, or_false] at ht
    rcases ht with rfl <;> exact ⟨by kernel_rfl, of_decide_eq_true (by kernel_rfl)⟩) (by kernel_rfl) (bt := 4) Try.underlying4 rfl
    (fun H ds h => by
      match ds, h with
      | [d0], _ => rfl) returns W base vs ds gs before hval hW hsz
theorem laid : laidOutB Try.pinned.checked.prog = true := by kernel_rfl
theorem mapsR : mapsRowed Try.pinned.checked.prog = true := by kernel_rfl
theorem inPl : (Rows.graphOrdersRow.inPlace == Try.pinned.checked.prog.inPlace 9) = true := by kernel_rfl
theorem unf : (Rows.graphOrdersRow.unfollowed == Try.pinned.checked.prog.unfollowed 9) = true := by kernel_rfl
theorem recs : (Rows.graphOrdersRow.recurses == Try.pinned.checked.prog.recurses 9) = true := by kernel_rfl
theorem namd : (Rows.graphOrdersRow.named == Try.pinned.checked.prog.varsNamed 9) = true := by kernel_rfl
theorem closed : joinedFacts Try.pinned.checked.prog 9 Try.f9 Rows.graphOrdersSpec Rows.graphOrdersRow = true := by
  unfold joinedFacts
  simp only [Bool.and_eq_true]
  exact ⟨⟨⟨⟨⟨⟨⟨⟨⟨⟨⟨⟨⟨⟨⟨⟨⟨⟨⟨⟨⟨⟨⟨⟨⟨⟨⟨⟨⟨⟨⟨(by kernel_rfl), laid⟩, mapsR⟩, (by kernel_rfl)⟩, (by kernel_rfl)⟩, (by kernel_rfl)⟩, (by kernel_rfl)⟩, (by kernel_rfl)⟩, (by kernel_rfl)⟩, inPl⟩, unf⟩, recs⟩, namd⟩, (by kernel_rfl)⟩, (by kernel_rfl)⟩, (by kernel_rfl)⟩, (by kernel_rfl)⟩, (by kernel_rfl)⟩, (by kernel_rfl)⟩, (by kernel_rfl)⟩, (by kernel_rfl)⟩, (by kernel_rfl)⟩, (by kernel_rfl)⟩, (by kernel_rfl)⟩, (by kernel_rfl)⟩, (by kernel_rfl)⟩, (by kernel_rfl)⟩, (by kernel_rfl)⟩, (by kernel_rfl)⟩, (by kernel_rfl)⟩, (by kernel_rfl)⟩, (by kernel_rfl)⟩
theorem over : Rows.graphOrdersRow.holds Try.pinned (OpenSpec.ofChange Rows.graphOrdersSpec) :=
  OpenClaim.holds_of_wide 9 Try.f9 rfl rfl rfl rfl rfl rfl rfl ⟨rfl, rfl, rfl, rfl, rfl⟩ rfl rfl rfl rfl rfl (by kernel_rfl) Try.func9 closed
    (of_decide_eq_true (by kernel_rfl)) (by unfold Func.isWrapper; first | (rw [if_pos (by decide +kernel)]; kernel_rfl) | (rw [if_neg (by decide +kernel)]; exact ⟨rfl, rfl⟩))
    (fun os started H enc _ => lifted os started H enc)
end Go.Proofs.Ytldkmmnffjdliaa.graphOrdersRow_
namespace Go.Proofs.Ytldkmmnffjdliaa
/-- The row. -/
theorem graphOrders_holds : Rows.GraphOrdersSaid := graphOrdersRow_.over
#print axioms graphOrders_holds
end Go.Proofs.Ytldkmmnffjdliaa
