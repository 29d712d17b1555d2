/- LiveTrue: whatever the input, the law returns true, and the input reads as it did. Its conditions: none but the row's own. -/
import Derived.Test.YtnjbjgmohmghoaaRows
import Derived.Test.YtnjbjgmohmghoaaLtMb
import Derived.WalkKit
import Derived.ProofKit
import Derived.OpenShut
import Derived.ShutString
import Derived.ChangeOld
import Derived.Below
import Derived.SizedLaws
namespace Go.Proofs.Ytnjbjgmohmghoaa.liveTrueRow_
open Go.ChangeShapes Go.WideShapes Go.ChangeAt Go.RowKit Go.Bm Go.Bm.GoYtnjbjgmohmghoaa
set_option linter.unusedVariables false
set_option maxRecDepth 100000
theorem own : ownKnob Try.prog.godebug = none := by kernel_rfl
theorem laidOut : laidOutB Try.prog = true := by kernel_rfl
noncomputable def args : Args Try.prog [24, 42] (api_Program × (List api_Pick) × Unit) := Args.cons ty24 (Args.cons ty42 (Args.nil))
theorem returns : ∀ x, args.wf x → Does Try.prog 9 (args.enc x) [] (.pv (.bool true), []) := by
  rintro ⟨x0, x1, ⟨⟩⟩ ⟨h0, h1, _⟩
  have e : args.enc (x0, x1, ()) = [.agg [.pv (.int .i64 x0.globals), .pv (.int .i64 x0.locks), .pv (.int .i64 x0.slots), .pv (.seq (List.length x0.funcs) (encP e_32 ([] : List api_Node) x0.funcs))], .pv (.seq (List.length x1) (encP e_api_Pick d_api_Pick x1))] := by kernel_rfl
  rw [e]
  exact alibilaw23_LiveTrue_ok (liveTrue x0 x1)
theorem lifted (os : Os) (started : os.Started) (H : Type) (enc : TypeId × Value → H) :
    ReturnsInHanded {} Try.checked os 9 .any (Rows.liveTrueSpec.pre6 enc Try.prog Try.f9 Rows.liveTrueRow.domain false) (Rows.liveTrueSpec.post enc Try.prog Try.f9 false true false false) := by
  refine returnsInHanded_of_change_sized (C := Try.checked) own started (by kernel_rfl) Try.func9
    (ChangeSpec.witness6 (enc := enc) (C := Try.checked) false ⟨#[], #[.agg #[.int .i64 0, .int .i64 0, .int .i64 0, .slice none 0 0], .slice none 0 0], []⟩ 8 (by kernel_rfl) (by kernel_rfl) (by kernel_rfl) (by kernel_rfl)) ?_
  intro W base vs ds gs before hval hW hcnd hsz _
  exact contract_of (C := Try.checked) laidOut (by kernel_rfl) args (fun t ht => by
    simp only [List.mem_cons, List.not_mem_nil, or_false] at ht
    rcases ht with rfl | rfl <;> exact ⟨by kernel_rfl, of_decide_eq_true (by kernel_rfl)⟩) (by kernel_rfl) (bt := 4) Try.underlying4 rfl
    (fun H ds h => by
      match ds, h with
      | [d0, d1], _ => rfl) returns W base vs ds gs before hval hW hsz (fun g cs h => by cases h)
theorem laid : laidOutB Try.pinned.checked.prog = true := by kernel_rfl
theorem mapsR : mapsRowed Try.pinned.checked.prog = true := by kernel_rfl
theorem inPl : (Rows.liveTrueRow.inPlace == Try.pinned.checked.prog.inPlace 9) = true := by kernel_rfl
theorem unf : (Rows.liveTrueRow.unfollowed == Try.pinned.checked.prog.unfollowed 9) = true := by kernel_rfl
theorem recs : (Rows.liveTrueRow.recurses == Try.pinned.checked.prog.recurses 9) = true := by kernel_rfl
theorem namd : (Rows.liveTrueRow.named == Try.pinned.checked.prog.varsNamed 9) = true := by kernel_rfl
theorem closed : joinedFacts Try.pinned.checked.prog 9 Try.f9 Rows.liveTrueSpec Rows.liveTrueRow = true := by
  unfold joinedFacts
  simp only [Bool.and_eq_true]
  exact ⟨⟨⟨⟨⟨⟨⟨⟨⟨⟨⟨⟨⟨⟨⟨⟨⟨⟨⟨⟨⟨⟨⟨⟨⟨⟨⟨⟨⟨⟨⟨(by kernel_rfl), laid⟩, mapsR⟩, (by kernel_rfl)⟩, (by kernel_rfl)⟩, (by kernel_rfl)⟩, (by kernel_rfl)⟩, (by kernel_rfl)⟩, (by kernel_rfl)⟩, inPl⟩, unf⟩, recs⟩, namd⟩, (by kernel_rfl)⟩, (by kernel_rfl)⟩, (by kernel_rfl)⟩, (by kernel_rfl)⟩, (by kernel_rfl)⟩, (by kernel_rfl)⟩, (by kernel_rfl)⟩, (by kernel_rfl)⟩, (by kernel_rfl)⟩, (by kernel_rfl)⟩, (by kernel_rfl)⟩, (by kernel_rfl)⟩, (by kernel_rfl)⟩, (by kernel_rfl)⟩, (by kernel_rfl)⟩, (by kernel_rfl)⟩, (by kernel_rfl)⟩, (by kernel_rfl)⟩, (by kernel_rfl)⟩
theorem over : Rows.liveTrueRow.holds Try.pinned (OpenSpec.ofChange Rows.liveTrueSpec) :=
  OpenClaim.holds_of_wide 9 Try.f9 rfl rfl rfl rfl rfl rfl rfl ⟨rfl, rfl, rfl, rfl, rfl⟩ rfl rfl rfl rfl rfl (by kernel_rfl) Try.func9 closed
    (of_decide_eq_true (by kernel_rfl)) (by unfold Func.isWrapper; first | (rw [if_pos (by decide +kernel)]; kernel_rfl) | (rw [if_neg (by decide +kernel)]; exact ⟨rfl, rfl⟩))
    (fun os started H enc _ => lifted os started H enc)
end Go.Proofs.Ytnjbjgmohmghoaa.liveTrueRow_
namespace Go.Proofs.Ytnjbjgmohmghoaa
/-- The row. -/
theorem liveTrue_holds : Rows.LiveTrueSaid := liveTrueRow_.over
#print axioms liveTrue_holds
end Go.Proofs.Ytnjbjgmohmghoaa
