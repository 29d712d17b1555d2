import Derived.Test.YtipjbmnfnmlkfaaDoorRows
import Derived.Test.YtipjbmnfnmlkfaaDoorCards
import Derived.Test.YtipjbmnfnmlkfaaDoorTie
import Derived.Test.YtipjbmnfnmlkfaaDoorBmTab
import Derived.Test.YtipjbmnfnmlkfaaDoorLcHb
import Derived.WalkKit
import Derived.ProofKit
import Derived.OpenShut
import Derived.ShutString
import Derived.ChangeOld
import Derived.Below
import Derived.SizedLaws
import Derived.LaidMore
import Derived.LaidHandle
import Derived.Handed
import Derived.SevenTiedAt
namespace Go.Proofs.YtipjbmnfnmlkfaaDoor.classHasRow_
open Go.ChangeShapes Go.WideShapes Go.ChangeAt Go.RowKit Go.Bm Go.Bm.GoYtipjbmnfnmlkfaaDoor
set_option linter.unusedVariables false
set_option maxRecDepth 100000
theorem own : ownKnob Tryd.prog.godebug = none := by kernel_rfl
theorem laidOut : laidOutB Tryd.prog = true := by kernel_rfl
noncomputable def args : Args Tryd.prog [5, 5, 5, 4] ((BitVec 8) × (BitVec 8) × (BitVec 8) × Bool × Unit) := Args.cons ty5 (Args.cons ty5 (Args.cons ty5 (Args.cons ty4 (Args.nil))))
theorem returns : ∀ x, args.wf x → pL Tryd.prog 6 (args.enc x) [] (.pv (.bool true), []) := by
  rintro ⟨x0, x1, x2, x3, ⟨⟩⟩ ⟨h0, h1, h2, h3, _⟩
  have e : args.enc (x0, x1, x2, x3, ()) = [vy x0, vy x1, vy x2, vb x3] := by kernel_rfl
  rw [e]
  exact la _ (DI x0 x1 x2 x3)
def laidL : List (String × DataW Unit) := [("math/bits.deBruijn32tab", Rows.laid_math_bits_deBruijn32tab), ("alibi/sha.keys", Rows.laid_alibi_sha_keys)]
theorem door_met (os : Os) (vs : Array Value) : laidMetH Tryd.prog laidL ((World.doorLaid Tryd.prog 2000 os).forCall (fun _ _ => 0) ⟨#[], vs, []⟩).memory :=
  laidMetH_of_parts3 (fuel := 8) (laidMet_of_run' 8 (by kernel_rfl) (by kernel_rfl)) (by kernel_rfl) (by kernel_rfl)
theorem glo {W : World} (h : laidMetH Tryd.prog laidL W) : se (pS W) := by
  obtain ⟨ha, hb⟩ := Af (by kernel_rfl) (by kernel_rfl) h
  obtain ⟨a0, a1⟩ := tA (P := Tryd.prog) (nm := "math/bits.deBruijn32tab") (g := 1) (t := 27) (e := 5) (n := 32) (k := .u8) (vals := [0, 1, 28, 2, 29, 14, 24, 3, 30, 22, 20, 15, 25, 17, 4, 8, 31, 27, 13, 23, 21, 19, 16, 7, 26, 12, 18, 6, 11, 5, 10, 9]) (by kernel_rfl) (by kernel_rfl) (by kernel_rfl) (by kernel_rfl) (by kernel_rfl) ha
  obtain ⟨b0, b1⟩ := tA (P := Tryd.prog) (nm := "alibi/sha.keys") (g := 0) (t := 177) (e := 35) (n := 64) (k := .u32) (vals := [1116352408, 1899447441, 3049323471, 3921009573, 961987163, 1508970993, 2453635748, 2870763221, 3624381080, 310598401, 607225278, 1426881987, 1925078388, 2162078206, 2614888103, 3248222580, 3835390401, 4022224774, 264347078, 604807628, 770255983, 1249150122, 1555081692, 1996064986, 2554220882, 2821834349, 2952996808, 3210313671, 3336571891, 3584528711, 113926993, 338241895, 666307205, 773529912, 1294757372, 1396182291, 1695183700, 1986661051, 2177026350, 2456956037, 2730485921, 2820302411, 3259730800, 3345764771, 3516065817, 3600352804, 4094571909, 275423344, 430227734, 506948616, 659060556, 883997877, 958139571, 1322822218, 1537002063, 1747873779, 1955562222, 2024104815, 2227730452, 2361852424, 2428436474, 2756734187, 3204031479, 3329325298]) (by kernel_rfl) (by kernel_rfl) (by kernel_rfl) (by kernel_rfl) (by kernel_rfl) hb
  exact C7 fun g cs hg => match g, hg with
    | 0, hg => ⟨.u32, [1116352408, 1899447441, 3049323471, 3921009573, 961987163, 1508970993, 2453635748, 2870763221, 3624381080, 310598401, 607225278, 1426881987, 1925078388, 2162078206, 2614888103, 3248222580, 3835390401, 4022224774, 264347078, 604807628, 770255983, 1249150122, 1555081692, 1996064986, 2554220882, 2821834349, 2952996808, 3210313671, 3336571891, 3584528711, 113926993, 338241895, 666307205, 773529912, 1294757372, 1396182291, 1695183700, 1986661051, 2177026350, 2456956037, 2730485921, 2820302411, 3259730800, 3345764771, 3516065817, 3600352804, 4094571909, 275423344, 430227734, 506948616, 659060556, 883997877, 958139571, 1322822218, 1537002063, 1747873779, 1955562222, 2024104815, 2227730452, 2361852424, 2428436474, 2756734187, 3204031479, 3329325298], (Option.some.inj hg).symm, b0, b1⟩
    | 1, hg => ⟨.u8, [0, 1, 28, 2, 29, 14, 24, 3, 30, 22, 20, 15, 25, 17, 4, 8, 31, 27, 13, 23, 21, 19, 16, 7, 26, 12, 18, 6, 11, 5, 10, 9], (Option.some.inj hg).symm, a0, a1⟩
    | n + 2, hg => by cases hg
theorem lifted (os : Os) (started : os.Started) (H : Type) (enc : TypeId × Value → H) :
    ReturnsInHanded {} Tryd.checked os 6 .any (fun w vs => (Rows.classHasSpec.pre enc Tryd.prog Tryd.f6 Rows.classHasRow.domain false w vs ∧ laidMetH Tryd.prog laidL w) ∧ sizedMet enc Tryd.prog Tryd.f6 (OpenSpec.ofChange Rows.classHasSpec) false w vs) (Rows.classHasSpec.post enc Tryd.prog Tryd.f6 false true false false) := by
  refine returnsInHanded_of_change_and (C := Tryd.checked) (X := fun w _ => laidMetH Tryd.prog laidL w) (fun _ _ _ hh h => h.of_heap hh) own started (by kernel_rfl) Tryd.func6
    (ChangeSpec.witness_shaped (enc := enc) (C := Tryd.checked) (os := os) (X := fun w _ => laidMetH Tryd.prog laidL w) false (World.doorLaid Tryd.prog 2000 os) #[.int .u8 0, .int .u8 0, .int .u8 0, .bool false] 8 rfl (World.shaped_of_RefB (by kernel_rfl) (by kernel_rfl)) (by kernel_rfl) (by kernel_rfl) (by kernel_rfl) (door_met os _)) ?_
  intro W base vs ds gs before hval hW hcnd hsz hL _
  exact zd (C := Tryd.checked) laidOut (by kernel_rfl) args (fun t ht => by
    simp only [List.mem_cons, List.not_mem_nil, or_false] at ht
    rcases ht with rfl | rfl | rfl | rfl <;> exact ⟨by kernel_rfl, of_decide_eq_true (by kernel_rfl)⟩) (by kernel_rfl) (bt := 4) Tryd.underlying4 rfl
    (fun H ds h => by
      match ds, h with
      | [d0, d1, d2, d3], _ => rfl) returns W base vs ds gs before hval hW hsz (glo hL)
theorem laid : laidOutB Tryd.pinned.checked.prog = true := by kernel_rfl
theorem mapsR : mapsRowed Tryd.pinned.checked.prog = true := by kernel_rfl
theorem inPl : (Rows.classHasRow.inPlace == Tryd.pinned.checked.prog.inPlace 6) = true := by kernel_rfl
theorem unf : (Rows.classHasRow.unfollowed == Tryd.pinned.checked.prog.unfollowed 6) = true := by kernel_rfl
theorem recs : (Rows.classHasRow.recurses == Tryd.pinned.checked.prog.recurses 6) = true := by kernel_rfl
theorem namd : (Rows.classHasRow.named == Tryd.pinned.checked.prog.varsNamed 6) = true := by kernel_rfl
theorem closed : joinedFacts Tryd.pinned.checked.prog 6 Tryd.f6 Rows.classHasSpec Rows.classHasRow = true := by
  unfold joinedFacts
  simp only [Bool.and_eq_true]
  exact ⟨⟨⟨⟨⟨⟨⟨⟨⟨⟨⟨⟨⟨⟨⟨⟨⟨⟨⟨⟨⟨⟨⟨⟨⟨⟨⟨⟨⟨⟨⟨(by kernel_rfl), laid⟩, mapsR⟩, (by kernel_rfl)⟩, (by kernel_rfl)⟩, (by kernel_rfl)⟩, (by kernel_rfl)⟩, (by kernel_rfl)⟩, (by kernel_rfl)⟩, inPl⟩, unf⟩, recs⟩, namd⟩, (by kernel_rfl)⟩, (by kernel_rfl)⟩, (by kernel_rfl)⟩, (by kernel_rfl)⟩, (by kernel_rfl)⟩, (by kernel_rfl)⟩, (by kernel_rfl)⟩, (by kernel_rfl)⟩, (by kernel_rfl)⟩, (by kernel_rfl)⟩, (by kernel_rfl)⟩, (by kernel_rfl)⟩, (by kernel_rfl)⟩, (by kernel_rfl)⟩, (by kernel_rfl)⟩, (by kernel_rfl)⟩, (by kernel_rfl)⟩, (by kernel_rfl)⟩, (by kernel_rfl)⟩
theorem over : Rows.classHasRow.holds Tryd.pinned (OpenSpec.ofChange Rows.classHasSpec) :=
  OpenClaim.holds_of_wide 6 Tryd.f6 rfl rfl rfl rfl rfl rfl rfl ⟨rfl, rfl, rfl, rfl, rfl⟩ rfl rfl rfl rfl rfl (by kernel_rfl) Tryd.func6 closed
    (of_decide_eq_true (by kernel_rfl)) (by unfold Func.isWrapper; first | (rw [if_pos (by decide +kernel)]; kernel_rfl) | (rw [if_neg (by decide +kernel)]; exact ⟨rfl, rfl⟩))
    (fun os started H enc _ => lifted os started H enc)
theorem noStand : Tryd.f6.params.toList.all (fun t => Tryd.prog.wantsStandIn t == false) = true := by kernel_rfl
end Go.Proofs.YtipjbmnfnmlkfaaDoor.classHasRow_
namespace Go.Proofs.YtipjbmnfnmlkfaaDoor
theorem classHas_holds : Rows.ClassHasCardSaid :=
  Claim7.holds_tied_plain_at .later [] [.data, .data] true (true, "747e508ece33e2e961a149dc3c6538bf1b3fa6b8823e57eaf4eccda346e2bf5a") true classHasRow_.over (fun _ h => by cases h) (by kernel_rfl) (fun _ h => by cases h) classHas_row_tie rfl ⟨rfl, rfl⟩ (by kernel_rfl) rfl
    (fun f fn hf hfn => by
      obtain rfl : f = 6 := Option.some.inj ((show Tryd.prog.funcNamed "alibi/alibilaw25.ClassHas" = some 6 by kernel_rfl).symm.trans hf) |>.symm
      obtain rfl : fn = Tryd.f6 := (Option.some.inj (Tryd.func6.symm.trans hfn)).symm
      exact ⟨by kernel_rfl, fun j t ht => by
        have hm : t ∈ Tryd.f6.params.toList := Array.mem_toList_iff.2 (Array.mem_of_getElem? ht)
        have hf : Tryd.prog.wantsStandIn t = false := by simpa using List.all_eq_true.1 classHasRow_.noStand t hm
        exact hf⟩)
    (by kernel_rfl)
#print axioms classHas_holds
end Go.Proofs.YtipjbmnfnmlkfaaDoor
