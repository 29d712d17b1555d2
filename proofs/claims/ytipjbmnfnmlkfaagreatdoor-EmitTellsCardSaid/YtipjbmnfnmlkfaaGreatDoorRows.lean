/-
  NARROWER THAN 'FOR EVERY INPUT', by the rows' own cells (each row's printed sentence says how): CheckTells: laid · EmitTells: laid · EmitMakes: laid · EmitBest: laid · ClassAccepted: laid · EmitAccepted: laid · EmitNone: laid · ClassMade: laid.
  DERIVED. THE GIVEN ROWS OF THIS SEAT. 8 by the template 'for every input the law returns true; each argument reads behind the call as it read before'; 0 by the template 'total and deterministic' (their statements: YtipjbmnfnmlkfaaGreatDoorTotals.lean).
  GIVEN WITH THE SEED: the statements are not yours to turn. If you find one false, say at which input.
  Laid BY PROGRAM, IN A SANDBOX (cutbox-rows.mjs): the forced cells as the released guide's own fill.sh prints them over the translation 04a07a618fa47b99… (all of the seat's roots in one cut). By AI agents, Wed Nov 11 2026. No macro, syntax, notation, axiom, sorry.
-/
import Derived.Test.YtipjbmnfnmlkfaaGreatDoorChecked
import GoSem.Claim
import GoSem.ClaimJoined
import GoSem.ClaimMapViews
import Derived.JoinedTies
import Derived.KernelRfl
namespace Go.Proofs.YtipjbmnfnmlkfaaGreatDoor
/- THE CELL 'sum', in the pinned program and in every row, IS THE sha256 OF THE DUMP (.gsa) THAT YtipjbmnfnmlkfaaGreatDoorProg.lean LOADS. Nothing in Lean hashes anything: it is a label: what it is worth is what the hold of that sum in a sandbox is worth. -/
noncomputable def Tryz.pinned : Pinned := { name := "ytipjbmnfnmlkfaagreatdoor", sum := "04a07a618fa47b994b488bf3db801f0adbed70b1a4eeabd8334f401b4c5bc098", checked := Tryz.checked }
namespace Rows
def none {H : Type} : Left H := { results := [], args := [] }

/- WHAT THE LISTED PACKAGE-LEVEL VARIABLES READ AS WHEN THE CALL BEGINS. Each datum BY PROGRAM (the guide's laid-datum.mjs) off the statement by which the dump's own 'gosem.cut.vars' lays the variable. In a bare row this is a premise. The card (YtipjbmnfnmlkfaaGreatDoorCards.lean) ties it to the program's text. -/
def laid_alibi_sha_keys {H : Type} : DataW H := .agg [.lit (.int .u32 1116352408), .lit (.int .u32 1899447441), .lit (.int .u32 3049323471), .lit (.int .u32 3921009573), .lit (.int .u32 961987163), .lit (.int .u32 1508970993), .lit (.int .u32 2453635748), .lit (.int .u32 2870763221), .lit (.int .u32 3624381080), .lit (.int .u32 310598401), .lit (.int .u32 607225278), .lit (.int .u32 1426881987), .lit (.int .u32 1925078388), .lit (.int .u32 2162078206), .lit (.int .u32 2614888103), .lit (.int .u32 3248222580), .lit (.int .u32 3835390401), .lit (.int .u32 4022224774), .lit (.int .u32 264347078), .lit (.int .u32 604807628), .lit (.int .u32 770255983), .lit (.int .u32 1249150122), .lit (.int .u32 1555081692), .lit (.int .u32 1996064986), .lit (.int .u32 2554220882), .lit (.int .u32 2821834349), .lit (.int .u32 2952996808), .lit (.int .u32 3210313671), .lit (.int .u32 3336571891), .lit (.int .u32 3584528711), .lit (.int .u32 113926993), .lit (.int .u32 338241895), .lit (.int .u32 666307205), .lit (.int .u32 773529912), .lit (.int .u32 1294757372), .lit (.int .u32 1396182291), .lit (.int .u32 1695183700), .lit (.int .u32 1986661051), .lit (.int .u32 2177026350), .lit (.int .u32 2456956037), .lit (.int .u32 2730485921), .lit (.int .u32 2820302411), .lit (.int .u32 3259730800), .lit (.int .u32 3345764771), .lit (.int .u32 3516065817), .lit (.int .u32 3600352804), .lit (.int .u32 4094571909), .lit (.int .u32 275423344), .lit (.int .u32 430227734), .lit (.int .u32 506948616), .lit (.int .u32 659060556), .lit (.int .u32 883997877), .lit (.int .u32 958139571), .lit (.int .u32 1322822218), .lit (.int .u32 1537002063), .lit (.int .u32 1747873779), .lit (.int .u32 1955562222), .lit (.int .u32 2024104815), .lit (.int .u32 2227730452), .lit (.int .u32 2361852424), .lit (.int .u32 2428436474), .lit (.int .u32 2756734187), .lit (.int .u32 3204031479), .lit (.int .u32 3329325298)]
def laid_math_bits_deBruijn32tab {H : Type} : DataW H := .agg [.lit (.int .u8 0), .lit (.int .u8 1), .lit (.int .u8 28), .lit (.int .u8 2), .lit (.int .u8 29), .lit (.int .u8 14), .lit (.int .u8 24), .lit (.int .u8 3), .lit (.int .u8 30), .lit (.int .u8 22), .lit (.int .u8 20), .lit (.int .u8 15), .lit (.int .u8 25), .lit (.int .u8 17), .lit (.int .u8 4), .lit (.int .u8 8), .lit (.int .u8 31), .lit (.int .u8 27), .lit (.int .u8 13), .lit (.int .u8 23), .lit (.int .u8 21), .lit (.int .u8 19), .lit (.int .u8 16), .lit (.int .u8 7), .lit (.int .u8 26), .lit (.int .u8 12), .lit (.int .u8 18), .lit (.int .u8 6), .lit (.int .u8 11), .lit (.int .u8 5), .lit (.int .u8 10), .lit (.int .u8 9)]

/-- 'alibilaw20.CheckTells': WHATEVER THE INPUT: true; the input reads as it did. -/
def checkTellsSpec : ChangeSpec := { name := "checkTells", fn := fun _ => fun
  | [d1, d2] => { results := [.lit (.bool true)], args := [d1, d2] }
  | _ => none }
def checkTellsRow : OpenClaim := { program := "ytipjbmnfnmlkfaagreatdoor", sum := "04a07a618fa47b994b488bf3db801f0adbed70b1a4eeabd8334f401b4c5bc098", func := "alibi/alibilaw20.CheckTells", spec := "checkTells", unfollowed := true, recurses := true, named := ["alibi/sha.keys"], apart := false, laid := [("alibi/sha.keys", laid_alibi_sha_keys)] }
def CheckTellsSaid : Prop := checkTellsRow.holds Tryz.pinned (OpenSpec.ofChange checkTellsSpec)

/-- ITS FALSE NEIGHBOUR: 'it returns false'. Refute it at one input. -/
def checkTellsWrong : ChangeSpec := { name := "checkTells", fn := fun _ => fun
  | [d1, d2] => { results := [.lit (.bool false)], args := [d1, d2] }
  | _ => none }
def CheckTellsWrongFalsely : Prop := checkTellsRow.holds Tryz.pinned (OpenSpec.ofChange checkTellsWrong)

/-- 'alibilaw24.EmitTells': WHATEVER THE INPUT: true; the input reads as it did. -/
def emitTellsSpec : ChangeSpec := { name := "emitTells", fn := fun _ => fun
  | [d] => { results := [.lit (.bool true)], args := [d] }
  | _ => none }
def emitTellsRow : OpenClaim := { program := "ytipjbmnfnmlkfaagreatdoor", sum := "04a07a618fa47b994b488bf3db801f0adbed70b1a4eeabd8334f401b4c5bc098", func := "alibi/alibilaw24.EmitTells", spec := "emitTells", unfollowed := true, recurses := true, named := ["alibi/sha.keys", "math/bits.deBruijn32tab"], apart := false, laid := [("math/bits.deBruijn32tab", laid_math_bits_deBruijn32tab), ("alibi/sha.keys", laid_alibi_sha_keys)] }
def EmitTellsSaid : Prop := emitTellsRow.holds Tryz.pinned (OpenSpec.ofChange emitTellsSpec)

/-- ITS FALSE NEIGHBOUR: 'it returns false'. Refute it at one input. -/
def emitTellsWrong : ChangeSpec := { name := "emitTells", fn := fun _ => fun
  | [d] => { results := [.lit (.bool false)], args := [d] }
  | _ => none }
def EmitTellsWrongFalsely : Prop := emitTellsRow.holds Tryz.pinned (OpenSpec.ofChange emitTellsWrong)

/-- 'alibilaw24.EmitMakes': WHATEVER THE INPUT: true; the input reads as it did. -/
def emitMakesSpec : ChangeSpec := { name := "emitMakes", fn := fun _ => fun
  | [d] => { results := [.lit (.bool true)], args := [d] }
  | _ => none }
def emitMakesRow : OpenClaim := { program := "ytipjbmnfnmlkfaagreatdoor", sum := "04a07a618fa47b994b488bf3db801f0adbed70b1a4eeabd8334f401b4c5bc098", func := "alibi/alibilaw24.EmitMakes", spec := "emitMakes", unfollowed := true, recurses := true, named := ["alibi/sha.keys", "math/bits.deBruijn32tab"], apart := false, laid := [("math/bits.deBruijn32tab", laid_math_bits_deBruijn32tab), ("alibi/sha.keys", laid_alibi_sha_keys)] }
def EmitMakesSaid : Prop := emitMakesRow.holds Tryz.pinned (OpenSpec.ofChange emitMakesSpec)

/-- ITS FALSE NEIGHBOUR: 'it returns false'. Refute it at one input. -/
def emitMakesWrong : ChangeSpec := { name := "emitMakes", fn := fun _ => fun
  | [d] => { results := [.lit (.bool false)], args := [d] }
  | _ => none }
def EmitMakesWrongFalsely : Prop := emitMakesRow.holds Tryz.pinned (OpenSpec.ofChange emitMakesWrong)

/-- 'alibilaw24.EmitBest': WHATEVER THE INPUT: true; the input reads as it did. -/
def emitBestSpec : ChangeSpec := { name := "emitBest", fn := fun _ => fun
  | [d1, d2] => { results := [.lit (.bool true)], args := [d1, d2] }
  | _ => none }
def emitBestRow : OpenClaim := { program := "ytipjbmnfnmlkfaagreatdoor", sum := "04a07a618fa47b994b488bf3db801f0adbed70b1a4eeabd8334f401b4c5bc098", func := "alibi/alibilaw24.EmitBest", spec := "emitBest", unfollowed := true, recurses := true, named := ["alibi/sha.keys", "math/bits.deBruijn32tab"], apart := false, laid := [("math/bits.deBruijn32tab", laid_math_bits_deBruijn32tab), ("alibi/sha.keys", laid_alibi_sha_keys)] }
def EmitBestSaid : Prop := emitBestRow.holds Tryz.pinned (OpenSpec.ofChange emitBestSpec)

/-- ITS FALSE NEIGHBOUR: 'it returns false'. Refute it at one input. -/
def emitBestWrong : ChangeSpec := { name := "emitBest", fn := fun _ => fun
  | [d1, d2] => { results := [.lit (.bool false)], args := [d1, d2] }
  | _ => none }
def EmitBestWrongFalsely : Prop := emitBestRow.holds Tryz.pinned (OpenSpec.ofChange emitBestWrong)

/-- 'alibilaw25.ClassAccepted': WHATEVER THE INPUT: true; the input reads as it did. -/
def classAcceptedSpec : ChangeSpec := { name := "classAccepted", fn := fun _ => fun
  | [d1, d2] => { results := [.lit (.bool true)], args := [d1, d2] }
  | _ => none }
def classAcceptedRow : OpenClaim := { program := "ytipjbmnfnmlkfaagreatdoor", sum := "04a07a618fa47b994b488bf3db801f0adbed70b1a4eeabd8334f401b4c5bc098", func := "alibi/alibilaw25.ClassAccepted", spec := "classAccepted", unfollowed := true, recurses := true, named := ["math/bits.deBruijn32tab", "alibi/sha.keys"], apart := false, laid := [("math/bits.deBruijn32tab", laid_math_bits_deBruijn32tab), ("alibi/sha.keys", laid_alibi_sha_keys)] }
def ClassAcceptedSaid : Prop := classAcceptedRow.holds Tryz.pinned (OpenSpec.ofChange classAcceptedSpec)

/-- ITS FALSE NEIGHBOUR: 'it returns false'. Refute it at one input. -/
def classAcceptedWrong : ChangeSpec := { name := "classAccepted", fn := fun _ => fun
  | [d1, d2] => { results := [.lit (.bool false)], args := [d1, d2] }
  | _ => none }
def ClassAcceptedWrongFalsely : Prop := classAcceptedRow.holds Tryz.pinned (OpenSpec.ofChange classAcceptedWrong)

/-- 'alibilaw24.EmitAccepted': WHATEVER THE INPUT: true; the input reads as it did. -/
def emitAcceptedSpec : ChangeSpec := { name := "emitAccepted", fn := fun _ => fun
  | [d1, d2] => { results := [.lit (.bool true)], args := [d1, d2] }
  | _ => none }
def emitAcceptedRow : OpenClaim := { program := "ytipjbmnfnmlkfaagreatdoor", sum := "04a07a618fa47b994b488bf3db801f0adbed70b1a4eeabd8334f401b4c5bc098", func := "alibi/alibilaw24.EmitAccepted", spec := "emitAccepted", unfollowed := true, recurses := true, named := ["alibi/sha.keys", "math/bits.deBruijn32tab"], apart := false, laid := [("math/bits.deBruijn32tab", laid_math_bits_deBruijn32tab), ("alibi/sha.keys", laid_alibi_sha_keys)] }
def EmitAcceptedSaid : Prop := emitAcceptedRow.holds Tryz.pinned (OpenSpec.ofChange emitAcceptedSpec)

/-- ITS FALSE NEIGHBOUR: 'it returns false'. Refute it at one input. -/
def emitAcceptedWrong : ChangeSpec := { name := "emitAccepted", fn := fun _ => fun
  | [d1, d2] => { results := [.lit (.bool false)], args := [d1, d2] }
  | _ => none }
def EmitAcceptedWrongFalsely : Prop := emitAcceptedRow.holds Tryz.pinned (OpenSpec.ofChange emitAcceptedWrong)

/-- 'alibilaw24.EmitNone': WHATEVER THE INPUT: true; the input reads as it did. -/
def emitNoneSpec : ChangeSpec := { name := "emitNone", fn := fun _ => fun
  | [d1, d2] => { results := [.lit (.bool true)], args := [d1, d2] }
  | _ => none }
def emitNoneRow : OpenClaim := { program := "ytipjbmnfnmlkfaagreatdoor", sum := "04a07a618fa47b994b488bf3db801f0adbed70b1a4eeabd8334f401b4c5bc098", func := "alibi/alibilaw24.EmitNone", spec := "emitNone", unfollowed := true, recurses := true, named := ["alibi/sha.keys", "math/bits.deBruijn32tab"], apart := false, laid := [("math/bits.deBruijn32tab", laid_math_bits_deBruijn32tab), ("alibi/sha.keys", laid_alibi_sha_keys)] }
def EmitNoneSaid : Prop := emitNoneRow.holds Tryz.pinned (OpenSpec.ofChange emitNoneSpec)

/-- ITS FALSE NEIGHBOUR: 'it returns false'. Refute it at one input. -/
def emitNoneWrong : ChangeSpec := { name := "emitNone", fn := fun _ => fun
  | [d1, d2] => { results := [.lit (.bool false)], args := [d1, d2] }
  | _ => none }
def EmitNoneWrongFalsely : Prop := emitNoneRow.holds Tryz.pinned (OpenSpec.ofChange emitNoneWrong)

/-- 'alibilaw25.ClassMade': WHATEVER THE INPUT: true; the input reads as it did. -/
def classMadeSpec : ChangeSpec := { name := "classMade", fn := fun _ => fun
  | [d1, d2] => { results := [.lit (.bool true)], args := [d1, d2] }
  | _ => none }
def classMadeRow : OpenClaim := { program := "ytipjbmnfnmlkfaagreatdoor", sum := "04a07a618fa47b994b488bf3db801f0adbed70b1a4eeabd8334f401b4c5bc098", func := "alibi/alibilaw25.ClassMade", spec := "classMade", inPlace := ["internal/abi.NoEscape"], unfollowed := true, recurses := true, named := ["math/bits.deBruijn32tab", "alibi/sha.keys"], apart := false, laid := [("math/bits.deBruijn32tab", laid_math_bits_deBruijn32tab), ("alibi/sha.keys", laid_alibi_sha_keys)] }
def ClassMadeSaid : Prop := classMadeRow.holds Tryz.pinned (OpenSpec.ofChange classMadeSpec)

/-- ITS FALSE NEIGHBOUR: 'it returns false'. Refute it at one input. -/
def classMadeWrong : ChangeSpec := { name := "classMade", fn := fun _ => fun
  | [d1, d2] => { results := [.lit (.bool false)], args := [d1, d2] }
  | _ => none }
def ClassMadeWrongFalsely : Prop := classMadeRow.holds Tryz.pinned (OpenSpec.ofChange classMadeWrong)

/- THE SECOND FORM. 'bulk': how many values and letters a reading holds, each counted each time it is reached (what is shared counts as often as it is met; a slice's spare places count too). A statement '..UptoSaid' is the law's where the arguments, and the package variables that the reading takes, are together of bulk at most 1048576: NARROWER than '..Said'. Prove '..Said' where nothing that the law and all that it calls make is longer than what came in: it says more and counts as full. Else prove '..UptoSaid'. A law counts once. -/
mutual
def uptoBulk {H : Type} : DataW H → Nat
  | .lit (.string bytes) => bytes.length + 1
  | .lit _ => 1
  | .nil => 1
  | .ptr d => uptoBulk d + 1
  | .slice elems spare => uptoBulkAll elems + uptoBulkAll spare + 1
  | .agg parts => uptoBulkAll parts + 1
  | .iface _ d => uptoBulk d + 1
  | .map entries => uptoBulkEntries entries + 1
  | .held _ => 1
def uptoBulkAll {H : Type} : List (DataW H) → Nat
  | [] => 0
  | d :: r => uptoBulk d + uptoBulkAll r
def uptoBulkEntries {H : Type} : List (Lit × DataW H) → Nat
  | [] => 0
  | x :: r => uptoBulkEntry x + uptoBulkEntries r
def uptoBulkEntry {H : Type} : Lit × DataW H → Nat
  | (.string bytes, d) => bytes.length + uptoBulk d + 1
  | (_, d) => uptoBulk d + 1
 end
def uptoSmall : (H : Type) → List (DataW H) → Bool := fun _ ds => decide (uptoBulkAll ds ≤ 1048576)
def OpenSpec.upto (s : _root_.Go.ChangeSpec) : _root_.Go.OpenSpec := { _root_.Go.OpenSpec.ofChange s with cond := some uptoSmall }

/-- 'alibilaw20.CheckTells', WHERE WHAT IT READS IS OF BULK AT MOST 1048576: true; the input reads as it did. -/
def checkTellsUptoRow : OpenClaim := { program := "ytipjbmnfnmlkfaagreatdoor", sum := "04a07a618fa47b994b488bf3db801f0adbed70b1a4eeabd8334f401b4c5bc098", func := "alibi/alibilaw20.CheckTells", spec := "checkTells", unfollowed := true, recurses := true, named := ["alibi/sha.keys"], apart := false, laid := [("alibi/sha.keys", laid_alibi_sha_keys)], narrowed := true }
def CheckTellsUptoSaid : Prop := checkTellsUptoRow.holds Tryz.pinned (OpenSpec.upto checkTellsSpec)

/-- 'alibilaw24.EmitTells', WHERE WHAT IT READS IS OF BULK AT MOST 1048576: true; the input reads as it did. -/
def emitTellsUptoRow : OpenClaim := { program := "ytipjbmnfnmlkfaagreatdoor", sum := "04a07a618fa47b994b488bf3db801f0adbed70b1a4eeabd8334f401b4c5bc098", func := "alibi/alibilaw24.EmitTells", spec := "emitTells", unfollowed := true, recurses := true, named := ["alibi/sha.keys", "math/bits.deBruijn32tab"], apart := false, laid := [("math/bits.deBruijn32tab", laid_math_bits_deBruijn32tab), ("alibi/sha.keys", laid_alibi_sha_keys)], narrowed := true }
def EmitTellsUptoSaid : Prop := emitTellsUptoRow.holds Tryz.pinned (OpenSpec.upto emitTellsSpec)

/-- 'alibilaw24.EmitMakes', WHERE WHAT IT READS IS OF BULK AT MOST 1048576: true; the input reads as it did. -/
def emitMakesUptoRow : OpenClaim := { program := "ytipjbmnfnmlkfaagreatdoor", sum := "04a07a618fa47b994b488bf3db801f0adbed70b1a4eeabd8334f401b4c5bc098", func := "alibi/alibilaw24.EmitMakes", spec := "emitMakes", unfollowed := true, recurses := true, named := ["alibi/sha.keys", "math/bits.deBruijn32tab"], apart := false, laid := [("math/bits.deBruijn32tab", laid_math_bits_deBruijn32tab), ("alibi/sha.keys", laid_alibi_sha_keys)], narrowed := true }
def EmitMakesUptoSaid : Prop := emitMakesUptoRow.holds Tryz.pinned (OpenSpec.upto emitMakesSpec)

/-- 'alibilaw24.EmitBest', WHERE WHAT IT READS IS OF BULK AT MOST 1048576: true; the input reads as it did. -/
def emitBestUptoRow : OpenClaim := { program := "ytipjbmnfnmlkfaagreatdoor", sum := "04a07a618fa47b994b488bf3db801f0adbed70b1a4eeabd8334f401b4c5bc098", func := "alibi/alibilaw24.EmitBest", spec := "emitBest", unfollowed := true, recurses := true, named := ["alibi/sha.keys", "math/bits.deBruijn32tab"], apart := false, laid := [("math/bits.deBruijn32tab", laid_math_bits_deBruijn32tab), ("alibi/sha.keys", laid_alibi_sha_keys)], narrowed := true }
def EmitBestUptoSaid : Prop := emitBestUptoRow.holds Tryz.pinned (OpenSpec.upto emitBestSpec)

/-- 'alibilaw25.ClassAccepted', WHERE WHAT IT READS IS OF BULK AT MOST 1048576: true; the input reads as it did. -/
def classAcceptedUptoRow : OpenClaim := { program := "ytipjbmnfnmlkfaagreatdoor", sum := "04a07a618fa47b994b488bf3db801f0adbed70b1a4eeabd8334f401b4c5bc098", func := "alibi/alibilaw25.ClassAccepted", spec := "classAccepted", unfollowed := true, recurses := true, named := ["math/bits.deBruijn32tab", "alibi/sha.keys"], apart := false, laid := [("math/bits.deBruijn32tab", laid_math_bits_deBruijn32tab), ("alibi/sha.keys", laid_alibi_sha_keys)], narrowed := true }
def ClassAcceptedUptoSaid : Prop := classAcceptedUptoRow.holds Tryz.pinned (OpenSpec.upto classAcceptedSpec)

/-- 'alibilaw24.EmitAccepted', WHERE WHAT IT READS IS OF BULK AT MOST 1048576: true; the input reads as it did. -/
def emitAcceptedUptoRow : OpenClaim := { program := "ytipjbmnfnmlkfaagreatdoor", sum := "04a07a618fa47b994b488bf3db801f0adbed70b1a4eeabd8334f401b4c5bc098", func := "alibi/alibilaw24.EmitAccepted", spec := "emitAccepted", unfollowed := true, recurses := true, named := ["alibi/sha.keys", "math/bits.deBruijn32tab"], apart := false, laid := [("math/bits.deBruijn32tab", laid_math_bits_deBruijn32tab), ("alibi/sha.keys", laid_alibi_sha_keys)], narrowed := true }
def EmitAcceptedUptoSaid : Prop := emitAcceptedUptoRow.holds Tryz.pinned (OpenSpec.upto emitAcceptedSpec)

/-- 'alibilaw24.EmitNone', WHERE WHAT IT READS IS OF BULK AT MOST 1048576: true; the input reads as it did. -/
def emitNoneUptoRow : OpenClaim := { program := "ytipjbmnfnmlkfaagreatdoor", sum := "04a07a618fa47b994b488bf3db801f0adbed70b1a4eeabd8334f401b4c5bc098", func := "alibi/alibilaw24.EmitNone", spec := "emitNone", unfollowed := true, recurses := true, named := ["alibi/sha.keys", "math/bits.deBruijn32tab"], apart := false, laid := [("math/bits.deBruijn32tab", laid_math_bits_deBruijn32tab), ("alibi/sha.keys", laid_alibi_sha_keys)], narrowed := true }
def EmitNoneUptoSaid : Prop := emitNoneUptoRow.holds Tryz.pinned (OpenSpec.upto emitNoneSpec)

/-- 'alibilaw25.ClassMade', WHERE WHAT IT READS IS OF BULK AT MOST 1048576: true; the input reads as it did. -/
def classMadeUptoRow : OpenClaim := { program := "ytipjbmnfnmlkfaagreatdoor", sum := "04a07a618fa47b994b488bf3db801f0adbed70b1a4eeabd8334f401b4c5bc098", func := "alibi/alibilaw25.ClassMade", spec := "classMade", inPlace := ["internal/abi.NoEscape"], unfollowed := true, recurses := true, named := ["math/bits.deBruijn32tab", "alibi/sha.keys"], apart := false, laid := [("math/bits.deBruijn32tab", laid_math_bits_deBruijn32tab), ("alibi/sha.keys", laid_alibi_sha_keys)], narrowed := true }
def ClassMadeUptoSaid : Prop := classMadeUptoRow.holds Tryz.pinned (OpenSpec.upto classMadeSpec)

end Rows
end Go.Proofs.YtipjbmnfnmlkfaaGreatDoor
