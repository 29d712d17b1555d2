/- TextPlaces: whatever the input, the law returns true, and the input reads as it did; the table that its code reads is tied to the program's text. Its conditions: none but the row's own. -/
import Derived.Test.YtigopdlofamhlaaDoorRows
import Derived.Test.YtigopdlofamhlaaDoorCards
import Derived.Test.YtigopdlofamhlaaDoorTie
import Derived.Test.YtigopdlofamhlaaDoorBmTabS
import Derived.Test.YtigopdlofamhlaaDoorLtH
import Derived.WalkKit
import Derived.ProofKit
import Derived.OpenShut
import Derived.ShutString
import Derived.ChangeOld
import Derived.Below
import Derived.SizedLaws
import Derived.LaidMore
import Derived.LaidHandle
import Derived.Handed
import Derived.SevenTiedAt
import Derived.Lay
namespace Go.Proofs.YtigopdlofamhlaaDoor.textPlacesRow_
open Go.ChangeShapes Go.WideShapes Go.ChangeAt Go.RowKit Go.Bm Go.Bm.GoYtigopdlofamhlaaDoor
set_option linter.unusedVariables false
set_option maxRecDepth 100000
theorem own : ownKnob Tryd.prog.godebug = none := by kernel_rfl
theorem laidOut : laidOutB Tryd.prog = true := by kernel_rfl
noncomputable def args : Args Tryd.prog [9] (ByteArray × Unit) := Args.cons ty9 (Args.nil)
theorem returns : ∀ x, args.wf x → Does Tryd.prog 4 (args.enc x) [] (.pv (.bool true), []) := by
  rintro ⟨x0, ⟨⟩⟩ ⟨h0, _⟩
  have e : args.enc (x0, ()) = [.pv (.str x0)] := by kernel_rfl
  rw [e]
  exact alibilaw08_TextPlaces_ok _ (textPlaces x0)
/-- What the row lists. -/
def laidL : List (String × DataW Unit) := [("unicode/utf8.acceptRanges", Rows.laid_unicode_utf8_acceptRanges), ("alibi/text.names", Rows.laid_alibi_text_names), ("unicode/utf8.first", Rows.laid_unicode_utf8_first)]
theorem glo {W : World} (h : laidMetH Tryd.prog laidL W) : GloOk (baseCtx W) := by
  obtain ⟨ha, hb⟩ := laid_split (by kernel_rfl) (by kernel_rfl) h
  obtain ⟨hn, _⟩ := laid_split (by kernel_rfl) (by kernel_rfl) hb
  obtain ⟨a, b⟩ := laid_cellsS (P := Tryd.prog) (nm := "alibi/text.names") (g := 0) (t := 61) (e := 9) (n := 10) (vals := [ByteArray.mk #[115, 107, 105, 112], ByteArray.mk #[114, 101, 97, 100], ByteArray.mk #[119, 114, 105, 116, 101], ByteArray.mk #[108, 111, 99, 107], ByteArray.mk #[117, 110, 108, 111, 99, 107], ByteArray.mk #[115, 112, 97, 119, 110], ByteArray.mk #[106, 111, 105, 110], ByteArray.mk #[99, 97, 108, 108], ByteArray.mk #[98, 114, 97, 110, 99, 104], ByteArray.mk #[114, 101, 116, 117, 114, 110]]) (by kernel_rfl) (by kernel_rfl) (by kernel_rfl) (by kernel_rfl) (by kernel_rfl) hn
  exact gloOk_oneS (g0 := 0) (vals := [ByteArray.mk #[115, 107, 105, 112], ByteArray.mk #[114, 101, 97, 100], ByteArray.mk #[119, 114, 105, 116, 101], ByteArray.mk #[108, 111, 99, 107], ByteArray.mk #[117, 110, 108, 111, 99, 107], ByteArray.mk #[115, 112, 97, 119, 110], ByteArray.mk #[106, 111, 105, 110], ByteArray.mk #[99, 97, 108, 108], ByteArray.mk #[98, 114, 97, 110, 99, 104], ByteArray.mk #[114, 101, 116, 117, 114, 110]]) (fun g cs hg => match g, hg with
    | 0, hg => ⟨rfl, (Option.some.inj hg).symm⟩
    | n + 1, hg => by cases hg) a b
theorem lifted (os : Os) (started : os.Started) (H : Type) (enc : TypeId × Value → H) :
    ReturnsInHanded {} Tryd.checked os 4 .any (fun w vs => (Rows.textPlacesSpec.pre enc Tryd.prog Tryd.f4 Rows.textPlacesRow.domain false w vs ∧ laidMetH Tryd.prog laidL w) ∧ sizedMet enc Tryd.prog Tryd.f4 (OpenSpec.ofChange Rows.textPlacesSpec) false w vs) (Rows.textPlacesSpec.post enc Tryd.prog Tryd.f4 false true false false) := by
  refine returnsInHanded_of_change_and (C := Tryd.checked) (X := fun w _ => laidMetH Tryd.prog laidL w) (fun _ _ _ hh h => h.of_heap hh) own started (by kernel_rfl) Tryd.func4
    (ChangeSpec.witness_shaped (enc := enc) (C := Tryd.checked) (os := os) (X := fun w _ => laidMetH Tryd.prog laidL w) false (World.laidAll Tryd.prog os laidL) #[.string ByteArray.empty] 8 (World.laidAll_os _ _ _) (World.shaped_of_ZipB (by kernel_rfl) (by kernel_rfl)) (by kernel_rfl) (by kernel_rfl) (by kernel_rfl) (by rw [MakeChecks.laidMetH_plain _ _ _ (by kernel_rfl)]; exact laidMet_laidAll _ (by kernel_rfl) (by kernel_rfl))) ?_
  intro W base vs ds gs before hval hW hcnd hsz hL _
  exact contract_of (C := Tryd.checked) laidOut (by kernel_rfl) args (fun t ht => by
    simp only [List.mem_cons, List.not_mem_nil, or_false] at ht
    rcases ht with rfl <;> exact ⟨by kernel_rfl, of_decide_eq_true (by kernel_rfl)⟩) (by kernel_rfl) (bt := 4) Tryd.underlying4 rfl
    (fun H ds h => by
      match ds, h with
      | [d0], _ => rfl) returns W base vs ds gs before hval hW hsz (glo hL)
theorem laid : laidOutB Tryd.pinned.checked.prog = true := by kernel_rfl
theorem mapsR : mapsRowed Tryd.pinned.checked.prog = true := by kernel_rfl
theorem inPl : (Rows.textPlacesRow.inPlace == Tryd.pinned.checked.prog.inPlace 4) = true := by kernel_rfl
theorem unf : (Rows.textPlacesRow.unfollowed == Tryd.pinned.checked.prog.unfollowed 4) = true := by kernel_rfl
theorem recs : (Rows.textPlacesRow.recurses == Tryd.pinned.checked.prog.recurses 4) = true := by kernel_rfl
theorem namd : (Rows.textPlacesRow.named == Tryd.pinned.checked.prog.varsNamed 4) = true := by kernel_rfl
theorem closed : joinedFacts Tryd.pinned.checked.prog 4 Tryd.f4 Rows.textPlacesSpec Rows.textPlacesRow = true := by
  unfold joinedFacts
  simp only [Bool.and_eq_true]
  exact ⟨⟨⟨⟨⟨⟨⟨⟨⟨⟨⟨⟨⟨⟨⟨⟨⟨⟨⟨⟨⟨⟨⟨⟨⟨⟨⟨⟨⟨⟨⟨(by kernel_rfl), laid⟩, mapsR⟩, (by kernel_rfl)⟩, (by kernel_rfl)⟩, (by kernel_rfl)⟩, (by kernel_rfl)⟩, (by kernel_rfl)⟩, (by kernel_rfl)⟩, inPl⟩, unf⟩, recs⟩, namd⟩, (by kernel_rfl)⟩, (by kernel_rfl)⟩, (by kernel_rfl)⟩, (by kernel_rfl)⟩, (by kernel_rfl)⟩, (by kernel_rfl)⟩, (by kernel_rfl)⟩, (by kernel_rfl)⟩, (by kernel_rfl)⟩, (by kernel_rfl)⟩, (by kernel_rfl)⟩, (by kernel_rfl)⟩, (by kernel_rfl)⟩, (by kernel_rfl)⟩, (by kernel_rfl)⟩, (by kernel_rfl)⟩, (by kernel_rfl)⟩, (by kernel_rfl)⟩, (by kernel_rfl)⟩
theorem over : Rows.textPlacesRow.holds Tryd.pinned (OpenSpec.ofChange Rows.textPlacesSpec) :=
  OpenClaim.holds_of_wide 4 Tryd.f4 rfl rfl rfl rfl rfl rfl rfl ⟨rfl, rfl, rfl, rfl, rfl⟩ rfl rfl rfl rfl rfl (by kernel_rfl) Tryd.func4 closed
    (of_decide_eq_true (by kernel_rfl)) (by unfold Func.isWrapper; first | (rw [if_pos (by decide +kernel)]; kernel_rfl) | (rw [if_neg (by decide +kernel)]; exact ⟨rfl, rfl⟩))
    (fun os started H enc _ => lifted os started H enc)
theorem noStand : Tryd.f4.params.toList.all (fun t => Tryd.prog.wantsStandIn t == false) = true := by kernel_rfl
end Go.Proofs.YtigopdlofamhlaaDoor.textPlacesRow_
namespace Go.Proofs.YtigopdlofamhlaaDoor
/-- The card. -/
theorem textPlaces_holds : Rows.TextPlacesCardSaid :=
  Claim7.holds_tied_plain_at .later [] [.data, .widerDeep, .pinned] true (true, "00be20b34cf211dbd186f80d50860ec7bb35977f62968564e2b4d80714c8e10d") false textPlacesRow_.over (fun _ h => by cases h) (by kernel_rfl) (fun _ h => by cases h) textPlaces_row_tie rfl ⟨rfl, rfl⟩ (by kernel_rfl) rfl
    (fun f fn hf hfn => by
      obtain rfl : f = 4 := Option.some.inj ((show Tryd.prog.funcNamed "alibi/alibilaw08.TextPlaces" = some 4 by kernel_rfl).symm.trans hf) |>.symm
      obtain rfl : fn = Tryd.f4 := (Option.some.inj (Tryd.func4.symm.trans hfn)).symm
      exact ⟨by kernel_rfl, fun j t ht => by
        have hm : t ∈ Tryd.f4.params.toList := Array.mem_toList_iff.2 (Array.mem_of_getElem? ht)
        have hf : Tryd.prog.wantsStandIn t = false := by simpa using List.all_eq_true.1 textPlacesRow_.noStand t hm
        exact hf⟩)
    (by kernel_rfl)
#print axioms textPlaces_holds
end Go.Proofs.YtigopdlofamhlaaDoor
