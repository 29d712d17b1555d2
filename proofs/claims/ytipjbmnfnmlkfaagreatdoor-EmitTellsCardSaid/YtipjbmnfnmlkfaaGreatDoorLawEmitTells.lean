import Derived.Test.YtipjbmnfnmlkfaaGreatDoorRows
import Derived.Test.YtipjbmnfnmlkfaaGreatDoorCards
import Derived.Test.YtipjbmnfnmlkfaaGreatDoorTie
import Derived.Test.YtipjbmnfnmlkfaaGreatDoorBmTab
import Derived.Test.YtipjbmnfnmlkfaaGreatDoorLcTb
import Derived.WalkKit
import Derived.ProofKit
import Derived.OpenShut
import Derived.ShutString
import Derived.ChangeOld
import Derived.Below
import Derived.SizedLaws
import Derived.LaidMore
import Derived.LaidHandle
import Derived.Handed
import Derived.SevenTiedAt
namespace Go.Proofs.YtipjbmnfnmlkfaaGreatDoor.emitTellsRow_
open Go.ChangeShapes Go.WideShapes Go.ChangeAt Go.RowKit Go.Bm Go.Bm.GoYtipjbmnfnmlkfaaGreatDoor
set_option linter.unusedVariables false
set_option maxRecDepth 100000
theorem own : ownKnob Tryz.prog.godebug = none := by kernel_rfl
theorem laidOut : laidOutB Tryz.prog = true := by kernel_rfl
noncomputable def args : Args Tryz.prog [24] (ad × Unit) := Args.cons Iz (Args.nil)
theorem returns : ∀ x, args.wf x → qI Tryz.prog 4 (args.enc x) [] (.pv (.bool true), []) := by
  rintro ⟨x0, ⟨⟩⟩ ⟨h0, _⟩
  have e : args.enc (x0, ()) = [.agg [vi x0.globals, vi x0.locks, vi x0.slots, vq aD [] x0.funcs]] := by kernel_rfl
  rw [e]
  exact lm _ (EC x0)
def laidL : List (String × DataW Unit) := [("math/bits.deBruijn32tab", Rows.laid_math_bits_deBruijn32tab), ("alibi/sha.keys", Rows.laid_alibi_sha_keys)]
theorem door_met (os : Os) (vs : Array Value) : laidMetH Tryz.prog laidL ((World.doorLaid Tryz.prog 2000 os).forCall (fun _ _ => 0) ⟨#[], vs, []⟩).memory :=
  laidMetH_of_parts3 (fuel := 8) (laidMet_of_run' 8 (by kernel_rfl) (by kernel_rfl)) (by kernel_rfl) (by kernel_rfl)
theorem glo {W : World} (h : laidMetH Tryz.prog laidL W) : tn (qX W) := by
  obtain ⟨ha, hb⟩ := Cn (by kernel_rfl) (by kernel_rfl) h
  obtain ⟨a0, a1⟩ := vd (P := Tryz.prog) (nm := "math/bits.deBruijn32tab") (g := 0) (t := 25) (e := 5) (n := 32) (k := .u8) (vals := [0, 1, 28, 2, 29, 14, 24, 3, 30, 22, 20, 15, 25, 17, 4, 8, 31, 27, 13, 23, 21, 19, 16, 7, 26, 12, 18, 6, 11, 5, 10, 9]) (by kernel_rfl) (by kernel_rfl) (by kernel_rfl) (by kernel_rfl) (by kernel_rfl) ha
  obtain ⟨b0, b1⟩ := vd (P := Tryz.prog) (nm := "alibi/sha.keys") (g := 1) (t := 284) (e := 66) (n := 64) (k := .u32) (vals := [1116352408, 1899447441, 3049323471, 3921009573, 961987163, 1508970993, 2453635748, 2870763221, 3624381080, 310598401, 607225278, 1426881987, 1925078388, 2162078206, 2614888103, 3248222580, 3835390401, 4022224774, 264347078, 604807628, 770255983, 1249150122, 1555081692, 1996064986, 2554220882, 2821834349, 2952996808, 3210313671, 3336571891, 3584528711, 113926993, 338241895, 666307205, 773529912, 1294757372, 1396182291, 1695183700, 1986661051, 2177026350, 2456956037, 2730485921, 2820302411, 3259730800, 3345764771, 3516065817, 3600352804, 4094571909, 275423344, 430227734, 506948616, 659060556, 883997877, 958139571, 1322822218, 1537002063, 1747873779, 1955562222, 2024104815, 2227730452, 2361852424, 2428436474, 2756734187, 3204031479, 3329325298]) (by kernel_rfl) (by kernel_rfl) (by kernel_rfl) (by kernel_rfl) (by kernel_rfl) hb
  exact Fg fun g cs hg => match g, hg with
    | 0, hg => ⟨.u8, [0, 1, 28, 2, 29, 14, 24, 3, 30, 22, 20, 15, 25, 17, 4, 8, 31, 27, 13, 23, 21, 19, 16, 7, 26, 12, 18, 6, 11, 5, 10, 9], (Option.some.inj hg).symm, a0, a1⟩
    | 1, hg => ⟨.u32, [1116352408, 1899447441, 3049323471, 3921009573, 961987163, 1508970993, 2453635748, 2870763221, 3624381080, 310598401, 607225278, 1426881987, 1925078388, 2162078206, 2614888103, 3248222580, 3835390401, 4022224774, 264347078, 604807628, 770255983, 1249150122, 1555081692, 1996064986, 2554220882, 2821834349, 2952996808, 3210313671, 3336571891, 3584528711, 113926993, 338241895, 666307205, 773529912, 1294757372, 1396182291, 1695183700, 1986661051, 2177026350, 2456956037, 2730485921, 2820302411, 3259730800, 3345764771, 3516065817, 3600352804, 4094571909, 275423344, 430227734, 506948616, 659060556, 883997877, 958139571, 1322822218, 1537002063, 1747873779, 1955562222, 2024104815, 2227730452, 2361852424, 2428436474, 2756734187, 3204031479, 3329325298], (Option.some.inj hg).symm, b0, b1⟩
    | n + 2, hg => by cases hg
theorem lifted (os : Os) (started : os.Started) (H : Type) (enc : TypeId × Value → H) :
    ReturnsInHanded {} Tryz.checked os 4 .any (fun w vs => (Rows.emitTellsSpec.pre enc Tryz.prog Tryz.f4 Rows.emitTellsRow.domain false w vs ∧ laidMetH Tryz.prog laidL w) ∧ sizedMet enc Tryz.prog Tryz.f4 (OpenSpec.ofChange Rows.emitTellsSpec) false w vs) (Rows.emitTellsSpec.post enc Tryz.prog Tryz.f4 false true false false) := by
  refine returnsInHanded_of_change_and (C := Tryz.checked) (X := fun w _ => laidMetH Tryz.prog laidL w) (fun _ _ _ hh h => h.of_heap hh) own started (by kernel_rfl) Tryz.func4
    (ChangeSpec.witness_shaped (enc := enc) (C := Tryz.checked) (os := os) (X := fun w _ => laidMetH Tryz.prog laidL w) false (World.doorLaid Tryz.prog 2000 os) #[.agg #[.int .i64 0, .int .i64 0, .int .i64 0, .slice none 0 0]] 8 rfl (World.shaped_of_RefB (by kernel_rfl) (by kernel_rfl)) (by kernel_rfl) (by kernel_rfl) (by kernel_rfl) (door_met os _)) ?_
  intro W base vs ds gs before hval hW hcnd hsz hL _
  exact BA (C := Tryz.checked) laidOut (by kernel_rfl) args (fun t ht => by
    simp only [List.mem_cons, List.not_mem_nil, or_false] at ht
    rcases ht with rfl <;> exact ⟨by kernel_rfl, of_decide_eq_true (by kernel_rfl)⟩) (by kernel_rfl) (bt := 4) Tryz.underlying4 rfl
    (fun H ds h => by
      match ds, h with
      | [d0], _ => rfl) returns W base vs ds gs before hval hW hsz (glo hL)
theorem laid : laidOutB Tryz.pinned.checked.prog = true := by kernel_rfl
theorem mapsR : mapsRowed Tryz.pinned.checked.prog = true := by kernel_rfl
theorem inPl : (Rows.emitTellsRow.inPlace == Tryz.pinned.checked.prog.inPlace 4) = true := by kernel_rfl
theorem unf : (Rows.emitTellsRow.unfollowed == Tryz.pinned.checked.prog.unfollowed 4) = true := by kernel_rfl
theorem recs : (Rows.emitTellsRow.recurses == Tryz.pinned.checked.prog.recurses 4) = true := by kernel_rfl
theorem namd : (Rows.emitTellsRow.named == Tryz.pinned.checked.prog.varsNamed 4) = true := by kernel_rfl
theorem closed : joinedFacts Tryz.pinned.checked.prog 4 Tryz.f4 Rows.emitTellsSpec Rows.emitTellsRow = true := by
  unfold joinedFacts
  simp only [Bool.and_eq_true]
  exact ⟨⟨⟨⟨⟨⟨⟨⟨⟨⟨⟨⟨⟨⟨⟨⟨⟨⟨⟨⟨⟨⟨⟨⟨⟨⟨⟨⟨⟨⟨⟨(by kernel_rfl), laid⟩, mapsR⟩, (by kernel_rfl)⟩, (by kernel_rfl)⟩, (by kernel_rfl)⟩, (by kernel_rfl)⟩, (by kernel_rfl)⟩, (by kernel_rfl)⟩, inPl⟩, unf⟩, recs⟩, namd⟩, (by kernel_rfl)⟩, (by kernel_rfl)⟩, (by kernel_rfl)⟩, (by kernel_rfl)⟩, (by kernel_rfl)⟩, (by kernel_rfl)⟩, (by kernel_rfl)⟩, (by kernel_rfl)⟩, (by kernel_rfl)⟩, (by kernel_rfl)⟩, (by kernel_rfl)⟩, (by kernel_rfl)⟩, (by kernel_rfl)⟩, (by kernel_rfl)⟩, (by kernel_rfl)⟩, (by kernel_rfl)⟩, (by kernel_rfl)⟩, (by kernel_rfl)⟩, (by kernel_rfl)⟩
theorem over : Rows.emitTellsRow.holds Tryz.pinned (OpenSpec.ofChange Rows.emitTellsSpec) :=
  OpenClaim.holds_of_wide 4 Tryz.f4 rfl rfl rfl rfl rfl rfl rfl ⟨rfl, rfl, rfl, rfl, rfl⟩ rfl rfl rfl rfl rfl (by kernel_rfl) Tryz.func4 closed
    (of_decide_eq_true (by kernel_rfl)) (by unfold Func.isWrapper; first | (rw [if_pos (by decide +kernel)]; kernel_rfl) | (rw [if_neg (by decide +kernel)]; exact ⟨rfl, rfl⟩))
    (fun os started H enc _ => lifted os started H enc)
theorem noStand : Tryz.f4.params.toList.all (fun t => Tryz.prog.wantsStandIn t == false) = true := by kernel_rfl
end Go.Proofs.YtipjbmnfnmlkfaaGreatDoor.emitTellsRow_
namespace Go.Proofs.YtipjbmnfnmlkfaaGreatDoor
theorem emitTells_holds : Rows.EmitTellsCardSaid :=
  Claim7.holds_tied_plain_at .later [] [.data, .data] true (true, "db49c2c4c3313caa93da4afa961e333dd2746149499a4db4d38b5ba38ffbe2ad") true emitTellsRow_.over (fun _ h => by cases h) (by kernel_rfl) (fun _ h => by cases h) emitTells_row_tie rfl ⟨rfl, rfl⟩ (by kernel_rfl) rfl
    (fun f fn hf hfn => by
      obtain rfl : f = 4 := Option.some.inj ((show Tryz.prog.funcNamed "alibi/alibilaw24.EmitTells" = some 4 by kernel_rfl).symm.trans hf) |>.symm
      obtain rfl : fn = Tryz.f4 := (Option.some.inj (Tryz.func4.symm.trans hfn)).symm
      exact ⟨by kernel_rfl, fun j t ht => by
        have hm : t ∈ Tryz.f4.params.toList := Array.mem_toList_iff.2 (Array.mem_of_getElem? ht)
        have hf : Tryz.prog.wantsStandIn t = false := by simpa using List.all_eq_true.1 emitTellsRow_.noStand t hm
        exact hf⟩)
    (by kernel_rfl)
#print axioms emitTells_holds
end Go.Proofs.YtipjbmnfnmlkfaaGreatDoor
