/- ClassNests: whatever the input, the law returns true, and the input reads as it did; the table that its code reads is tied to the program's text. Its conditions: none but the row's own. -/
import Derived.Test.YtdifolgbppffpaaDoorRows
import Derived.Test.YtdifolgbppffpaaDoorCards
import Derived.Test.YtdifolgbppffpaaDoorTie
import Derived.Test.YtdifolgbppffpaaDoorBmTab
import Derived.Test.YtdifolgbppffpaaDoorDnMb
import Derived.WalkKit
import Derived.ProofKit
import Derived.OpenShut
import Derived.ShutString
import Derived.ChangeOld
import Derived.Below
import Derived.SizedLaws
import Derived.LaidMore
import Derived.LaidHandle
import Derived.Handed
import Derived.SevenTiedAt
namespace Go.Proofs.YtdifolgbppffpaaDoor.classNestsRow_
open Go.ChangeShapes Go.WideShapes Go.ChangeAt Go.RowKit Go.Bm Go.Bm.GoYtdifolgbppffpaaDoor
set_option linter.unusedVariables false
set_option maxRecDepth 100000
theorem own : ownKnob Tryd.prog.godebug = none := by kernel_rfl
theorem laidOut : laidOutB Tryd.prog = true := by kernel_rfl
noncomputable def args : Args Tryd.prog [24] (api_Program × Unit) := Args.cons ty24 (Args.nil)
theorem returns : ∀ x, args.wf x → Does Tryd.prog 3 (args.enc x) [] (.pv (.bool true), []) := by
  rintro ⟨x0, ⟨⟩⟩ ⟨h0, _⟩
  have e : args.enc (x0, ()) = [.agg [.pv (.int .i64 x0.globals), .pv (.int .i64 x0.locks), .pv (.int .i64 x0.slots), .pv (.seq (List.length x0.funcs) (encP e_44 ([] : List api_Node) x0.funcs))]] := by kernel_rfl
  rw [e]
  exact alibilaw25_ClassNests_ok (classNests x0)
/-- What the row lists. -/
def laidL : List (String × DataW Unit) := [("math/bits.deBruijn32tab", Rows.laid_math_bits_deBruijn32tab)]
theorem door_met (os : Os) (vs : Array Value) : laidMetH Tryd.prog laidL ((World.doorLaid Tryd.prog 2000 os).forCall (fun _ _ => 0) ⟨#[], vs, []⟩).memory :=
  laidMetH_of_parts3 (fuel := 8) (laidMet_of_run' 8 (by kernel_rfl) (by kernel_rfl)) (by kernel_rfl) (by kernel_rfl)
theorem glo {W : World} (h : laidMetH Tryd.prog laidL W) : GloOk (baseCtx W) := by
  obtain ⟨a, b⟩ := laid_cells (P := Tryd.prog) (nm := "math/bits.deBruijn32tab") (g := 2) (t := 53) (e := 5) (n := 32) (k := .u8) (vals := [0, 1, 28, 2, 29, 14, 24, 3, 30, 22, 20, 15, 25, 17, 4, 8, 31, 27, 13, 23, 21, 19, 16, 7, 26, 12, 18, 6, 11, 5, 10, 9]) (by kernel_rfl) (by kernel_rfl) (by kernel_rfl) (by kernel_rfl) (by kernel_rfl) h
  exact gloOk_one (g0 := 2) (k := .u8) (vals := [0, 1, 28, 2, 29, 14, 24, 3, 30, 22, 20, 15, 25, 17, 4, 8, 31, 27, 13, 23, 21, 19, 16, 7, 26, 12, 18, 6, 11, 5, 10, 9]) (fun g cs hg => match g, hg with
    | 0, hg => by cases hg
    | 1, hg => by cases hg
    | 2, hg => ⟨rfl, (Option.some.inj hg).symm⟩
    | n + 3, hg => by cases hg) a b
theorem lifted (os : Os) (started : os.Started) (H : Type) (enc : TypeId × Value → H) :
    ReturnsInHanded {} Tryd.checked os 3 .any (fun w vs => (Rows.classNestsSpec.pre enc Tryd.prog Tryd.f3 Rows.classNestsRow.domain false w vs ∧ laidMetH Tryd.prog laidL w) ∧ sizedMet enc Tryd.prog Tryd.f3 (OpenSpec.ofChange Rows.classNestsSpec) false w vs) (Rows.classNestsSpec.post enc Tryd.prog Tryd.f3 false true false false) := by
  refine returnsInHanded_of_change_and (C := Tryd.checked) (X := fun w _ => laidMetH Tryd.prog laidL w) (fun _ _ _ hh h => h.of_heap hh) own started (by kernel_rfl) Tryd.func3
    (ChangeSpec.witness_shaped (enc := enc) (C := Tryd.checked) (os := os) (X := fun w _ => laidMetH Tryd.prog laidL w) false (World.doorLaid Tryd.prog 2000 os) #[.agg #[.int .i64 0, .int .i64 0, .int .i64 0, .slice none 0 0]] 8 rfl (World.shaped_of_RefB (by kernel_rfl) (by kernel_rfl)) (by kernel_rfl) (by kernel_rfl) (by kernel_rfl) (door_met os _)) ?_
  intro W base vs ds gs before hval hW hcnd hsz hL _
  exact contract_of (C := Tryd.checked) laidOut (by kernel_rfl) args (fun t ht => by
    simp only [List.mem_cons, List.not_mem_nil, or_false] at ht
    rcases ht with rfl <;> exact ⟨by kernel_rfl, of_decide_eq_true (by kernel_rfl)⟩) (by kernel_rfl) (bt := 4) Tryd.underlying4 rfl
    (fun H ds h => by
      match ds, h with
      | [d0], _ => rfl) returns W base vs ds gs before hval hW hsz (glo hL)
theorem laid : laidOutB Tryd.pinned.checked.prog = true := by kernel_rfl
theorem mapsR : mapsRowed Tryd.pinned.checked.prog = true := by kernel_rfl
theorem inPl : (Rows.classNestsRow.inPlace == Tryd.pinned.checked.prog.inPlace 3) = true := by kernel_rfl
theorem unf : (Rows.classNestsRow.unfollowed == Tryd.pinned.checked.prog.unfollowed 3) = true := by kernel_rfl
theorem recs : (Rows.classNestsRow.recurses == Tryd.pinned.checked.prog.recurses 3) = true := by kernel_rfl
theorem namd : (Rows.classNestsRow.named == Tryd.pinned.checked.prog.varsNamed 3) = true := by kernel_rfl
theorem closed : joinedFacts Tryd.pinned.checked.prog 3 Tryd.f3 Rows.classNestsSpec Rows.classNestsRow = true := by
  unfold joinedFacts
  simp only [Bool.and_eq_true]
  exact ⟨⟨⟨⟨⟨⟨⟨⟨⟨⟨⟨⟨⟨⟨⟨⟨⟨⟨⟨⟨⟨⟨⟨⟨⟨⟨⟨⟨⟨⟨⟨(by kernel_rfl), laid⟩, mapsR⟩, (by kernel_rfl)⟩, (by kernel_rfl)⟩, (by kernel_rfl)⟩, (by kernel_rfl)⟩, (by kernel_rfl)⟩, (by kernel_rfl)⟩, inPl⟩, unf⟩, recs⟩, namd⟩, (by kernel_rfl)⟩, (by kernel_rfl)⟩, (by kernel_rfl)⟩, (by kernel_rfl)⟩, (by kernel_rfl)⟩, (by kernel_rfl)⟩, (by kernel_rfl)⟩, (by kernel_rfl)⟩, (by kernel_rfl)⟩, (by kernel_rfl)⟩, (by kernel_rfl)⟩, (by kernel_rfl)⟩, (by kernel_rfl)⟩, (by kernel_rfl)⟩, (by kernel_rfl)⟩, (by kernel_rfl)⟩, (by kernel_rfl)⟩, (by kernel_rfl)⟩, (by kernel_rfl)⟩
theorem over : Rows.classNestsRow.holds Tryd.pinned (OpenSpec.ofChange Rows.classNestsSpec) :=
  OpenClaim.holds_of_wide 3 Tryd.f3 rfl rfl rfl rfl rfl rfl rfl ⟨rfl, rfl, rfl, rfl, rfl⟩ rfl rfl rfl rfl rfl (by kernel_rfl) Tryd.func3 closed
    (of_decide_eq_true (by kernel_rfl)) (by unfold Func.isWrapper; first | (rw [if_pos (by decide +kernel)]; kernel_rfl) | (rw [if_neg (by decide +kernel)]; exact ⟨rfl, rfl⟩))
    (fun os started H enc _ => lifted os started H enc)
theorem noStand : Tryd.f3.params.toList.all (fun t => Tryd.prog.wantsStandIn t == false) = true := by kernel_rfl
end Go.Proofs.YtdifolgbppffpaaDoor.classNestsRow_
namespace Go.Proofs.YtdifolgbppffpaaDoor
/-- The card. -/
theorem classNests_holds : Rows.ClassNestsCardSaid :=
  Claim7.holds_tied_plain_at .later [] [.data] true (true, "66643173b13518cd256b56b1c868a84e449978324f9f46d03d5288f333879d0d") true classNestsRow_.over (fun _ h => by cases h) (by kernel_rfl) (fun _ h => by cases h) classNests_row_tie rfl ⟨rfl, rfl⟩ (by kernel_rfl) rfl
    (fun f fn hf hfn => by
      obtain rfl : f = 3 := Option.some.inj ((show Tryd.prog.funcNamed "alibi/alibilaw25.ClassNests" = some 3 by kernel_rfl).symm.trans hf) |>.symm
      obtain rfl : fn = Tryd.f3 := (Option.some.inj (Tryd.func3.symm.trans hfn)).symm
      exact ⟨by kernel_rfl, fun j t ht => by
        have hm : t ∈ Tryd.f3.params.toList := Array.mem_toList_iff.2 (Array.mem_of_getElem? ht)
        have hf : Tryd.prog.wantsStandIn t = false := by simpa using List.all_eq_true.1 classNestsRow_.noStand t hm
        exact hf⟩)
    (by kernel_rfl)
#print axioms classNests_holds
end Go.Proofs.YtdifolgbppffpaaDoor
