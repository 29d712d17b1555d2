/- LiveFinds: whatever the input, the law returns true, and the input reads as it did. Its conditions: none but the row's own. -/
import Derived.Test.YtdifolgbppffpaaRows
import Derived.Test.YtdifolgbppffpaaLiveNb
import Derived.WalkKit
import Derived.ProofKit
import Derived.OpenShut
import Derived.ShutString
import Derived.ChangeOld
import Derived.Below
import Derived.SizedLaws
namespace Go.Proofs.Ytdifolgbppffpaa.liveFindsRow_
open Go.ChangeShapes Go.WideShapes Go.ChangeAt Go.RowKit Go.Bm Go.Bm.GoYtdifolgbppffpaa
set_option linter.unusedVariables false
set_option maxRecDepth 100000
theorem own : ownKnob Try.prog.godebug = none := by kernel_rfl
theorem laidOut : laidOutB Try.prog = true := by kernel_rfl
noncomputable def args : Args Try.prog [24] (api_Program × Unit) := Args.cons ty24 (Args.nil)
theorem returns : ∀ x, args.wf x → Does Try.prog 6 (args.enc x) [] (.pv (.bool true), []) := by
  rintro ⟨x0, ⟨⟩⟩ ⟨h0, _⟩
  have e : args.enc (x0, ()) = [.agg [.pv (.int .i64 x0.globals), .pv (.int .i64 x0.locks), .pv (.int .i64 x0.slots), .pv (.seq (List.length x0.funcs) (encP e_62 ([] : List api_Node) x0.funcs))]] := by kernel_rfl
  rw [e]
  have hb : Try.prog.bytesOf 62 = 24 := by kernel_rfl
  have hh : x0.funcs.length * Try.prog.bytesOf 62 ≤ reachBytes := h0.2.2.2.1.2
  rw [hb] at hh
  have hr : reachBytes ≤ 1000000000000000000 := by decide
  exact alibilaw23_LiveFinds_ok (liveFinds x0 (by omega))
theorem lifted (os : Os) (started : os.Started) (H : Type) (enc : TypeId × Value → H) :
    ReturnsInHanded {} Try.checked os 6 .any (Rows.liveFindsSpec.pre6 enc Try.prog Try.f6 Rows.liveFindsRow.domain false) (Rows.liveFindsSpec.post enc Try.prog Try.f6 false true false false) := by
  refine returnsInHanded_of_change_sized (C := Try.checked) own started (by kernel_rfl) Try.func6
    (ChangeSpec.witness6 (enc := enc) (C := Try.checked) false ⟨#[], #[.agg #[.int .i64 0, .int .i64 0, .int .i64 0, .slice none 0 0]], []⟩ 8 (by kernel_rfl) (by kernel_rfl) (by kernel_rfl) (by kernel_rfl)) ?_
  intro W base vs ds gs before hval hW hcnd hsz _
  exact contract_of (C := Try.checked) laidOut (by kernel_rfl) args (fun t ht => by
    simp only [List.mem_cons, List.not_mem_nil, or_false] at ht
    rcases ht with rfl <;> exact ⟨by kernel_rfl, of_decide_eq_true (by kernel_rfl)⟩) (by kernel_rfl) (bt := 4) Try.underlying4 rfl
    (fun H ds h => by
      match ds, h with
      | [d0], _ => rfl) returns W base vs ds gs before hval hW hsz
theorem laid : laidOutB Try.pinned.checked.prog = true := by kernel_rfl
theorem mapsR : mapsRowed Try.pinned.checked.prog = true := by kernel_rfl
theorem inPl : (Rows.liveFindsRow.inPlace == Try.pinned.checked.prog.inPlace 6) = true := by kernel_rfl
theorem unf : (Rows.liveFindsRow.unfollowed == Try.pinned.checked.prog.unfollowed 6) = true := by kernel_rfl
theorem recs : (Rows.liveFindsRow.recurses == Try.pinned.checked.prog.recurses 6) = true := by kernel_rfl
theorem namd : (Rows.liveFindsRow.named == Try.pinned.checked.prog.varsNamed 6) = true := by kernel_rfl
theorem closed : joinedFacts Try.pinned.checked.prog 6 Try.f6 Rows.liveFindsSpec Rows.liveFindsRow = true := by
  unfold joinedFacts
  simp only [Bool.and_eq_true]
  exact ⟨⟨⟨⟨⟨⟨⟨⟨⟨⟨⟨⟨⟨⟨⟨⟨⟨⟨⟨⟨⟨⟨⟨⟨⟨⟨⟨⟨⟨⟨⟨(by kernel_rfl), laid⟩, mapsR⟩, (by kernel_rfl)⟩, (by kernel_rfl)⟩, (by kernel_rfl)⟩, (by kernel_rfl)⟩, (by kernel_rfl)⟩, (by kernel_rfl)⟩, inPl⟩, unf⟩, recs⟩, namd⟩, (by kernel_rfl)⟩, (by kernel_rfl)⟩, (by kernel_rfl)⟩, (by kernel_rfl)⟩, (by kernel_rfl)⟩, (by kernel_rfl)⟩, (by kernel_rfl)⟩, (by kernel_rfl)⟩, (by kernel_rfl)⟩, (by kernel_rfl)⟩, (by kernel_rfl)⟩, (by kernel_rfl)⟩, (by kernel_rfl)⟩, (by kernel_rfl)⟩, (by kernel_rfl)⟩, (by kernel_rfl)⟩, (by kernel_rfl)⟩, (by kernel_rfl)⟩, (by kernel_rfl)⟩
theorem over : Rows.liveFindsRow.holds Try.pinned (OpenSpec.ofChange Rows.liveFindsSpec) :=
  OpenClaim.holds_of_wide 6 Try.f6 rfl rfl rfl rfl rfl rfl rfl ⟨rfl, rfl, rfl, rfl, rfl⟩ rfl rfl rfl rfl rfl (by kernel_rfl) Try.func6 closed
    (of_decide_eq_true (by kernel_rfl)) (by unfold Func.isWrapper; first | (rw [if_pos (by decide +kernel)]; kernel_rfl) | (rw [if_neg (by decide +kernel)]; exact ⟨rfl, rfl⟩))
    (fun os started H enc _ => lifted os started H enc)
end Go.Proofs.Ytdifolgbppffpaa.liveFindsRow_
namespace Go.Proofs.Ytdifolgbppffpaa
/-- The row. -/
theorem liveFinds_holds : Rows.LiveFindsSaid := liveFindsRow_.over
#print axioms liveFinds_holds
end Go.Proofs.Ytdifolgbppffpaa
