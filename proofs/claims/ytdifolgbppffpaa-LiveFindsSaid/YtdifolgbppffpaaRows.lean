/-
  No cell of these rows narrows 'for every input' (looked for: loops, veiled, ifaces, maps, wideKeys, modest, calm, conditions, laid).
  DERIVED. THE GIVEN ROWS OF THIS SEAT. 6 by the template 'for every input the law returns true; each argument reads behind the call as it read before'; 0 by the template 'total and deterministic' (their statements: YtdifolgbppffpaaTotals.lean).
  GIVEN WITH THE SEED: the statements are not yours to turn. If you find one false, say at which input.
  Laid BY PROGRAM, IN A SANDBOX (cutbox-rows.mjs): the forced cells as the released guide's own fill.sh prints them over the translation 8a6d01baa32ff340… (all of the seat's roots in one cut). By AI agents, Wed Nov 11 2026. No macro, syntax, notation, axiom, sorry.
-/
import Derived.Test.YtdifolgbppffpaaChecked
import GoSem.Claim
import GoSem.ClaimJoined
import GoSem.ClaimMapViews
import Derived.JoinedTies
import Derived.KernelRfl
namespace Go.Proofs.Ytdifolgbppffpaa
/- THE CELL 'sum', in the pinned program and in every row, IS THE sha256 OF THE DUMP (.gsa) THAT YtdifolgbppffpaaProg.lean LOADS. Nothing in Lean hashes anything: it is a label: what it is worth is what the hold of that sum in a sandbox is worth. -/
noncomputable def Try.pinned : Pinned := { name := "ytdifolgbppffpaa", sum := "8a6d01baa32ff340f914610d8f3856ab465c56077fa6311b8c98dc4b4ceceecc", checked := Try.checked }
namespace Rows
def none {H : Type} : Left H := { results := [], args := [] }

/-- 'alibilaw22.HoldFinds': WHATEVER THE INPUT: true; the input reads as it did. -/
def holdFindsSpec : ChangeSpec := { name := "holdFinds", fn := fun _ => fun
  | [d] => { results := [.lit (.bool true)], args := [d] }
  | _ => none }
def holdFindsRow : OpenClaim := { program := "ytdifolgbppffpaa", sum := "8a6d01baa32ff340f914610d8f3856ab465c56077fa6311b8c98dc4b4ceceecc", func := "alibi/alibilaw22.HoldFinds", spec := "holdFinds", unfollowed := true, recurses := true, apart := false }
def HoldFindsSaid : Prop := holdFindsRow.holds Try.pinned (OpenSpec.ofChange holdFindsSpec)

/-- ITS FALSE NEIGHBOUR: 'it returns false'. Refute it at one input. -/
def holdFindsWrong : ChangeSpec := { name := "holdFinds", fn := fun _ => fun
  | [d] => { results := [.lit (.bool false)], args := [d] }
  | _ => none }
def HoldFindsWrongFalsely : Prop := holdFindsRow.holds Try.pinned (OpenSpec.ofChange holdFindsWrong)

/-- 'alibilaw22.HoldRules': WHATEVER THE INPUT: true; the input reads as it did. -/
def holdRulesSpec : ChangeSpec := { name := "holdRules", fn := fun _ => fun
  | [d1, d2] => { results := [.lit (.bool true)], args := [d1, d2] }
  | _ => none }
def holdRulesRow : OpenClaim := { program := "ytdifolgbppffpaa", sum := "8a6d01baa32ff340f914610d8f3856ab465c56077fa6311b8c98dc4b4ceceecc", func := "alibi/alibilaw22.HoldRules", spec := "holdRules", unfollowed := true, recurses := true, apart := false }
def HoldRulesSaid : Prop := holdRulesRow.holds Try.pinned (OpenSpec.ofChange holdRulesSpec)

/-- ITS FALSE NEIGHBOUR: 'it returns false'. Refute it at one input. -/
def holdRulesWrong : ChangeSpec := { name := "holdRules", fn := fun _ => fun
  | [d1, d2] => { results := [.lit (.bool false)], args := [d1, d2] }
  | _ => none }
def HoldRulesWrongFalsely : Prop := holdRulesRow.holds Try.pinned (OpenSpec.ofChange holdRulesWrong)

/-- 'alibilaw22.HoldBest': WHATEVER THE INPUT: true; the input reads as it did. -/
def holdBestSpec : ChangeSpec := { name := "holdBest", fn := fun _ => fun
  | [d1, d2] => { results := [.lit (.bool true)], args := [d1, d2] }
  | _ => none }
def holdBestRow : OpenClaim := { program := "ytdifolgbppffpaa", sum := "8a6d01baa32ff340f914610d8f3856ab465c56077fa6311b8c98dc4b4ceceecc", func := "alibi/alibilaw22.HoldBest", spec := "holdBest", unfollowed := true, recurses := true, apart := false }
def HoldBestSaid : Prop := holdBestRow.holds Try.pinned (OpenSpec.ofChange holdBestSpec)

/-- ITS FALSE NEIGHBOUR: 'it returns false'. Refute it at one input. -/
def holdBestWrong : ChangeSpec := { name := "holdBest", fn := fun _ => fun
  | [d1, d2] => { results := [.lit (.bool false)], args := [d1, d2] }
  | _ => none }
def HoldBestWrongFalsely : Prop := holdBestRow.holds Try.pinned (OpenSpec.ofChange holdBestWrong)

/-- 'alibilaw23.LiveFinds': WHATEVER THE INPUT: true; the input reads as it did. -/
def liveFindsSpec : ChangeSpec := { name := "liveFinds", fn := fun _ => fun
  | [d] => { results := [.lit (.bool true)], args := [d] }
  | _ => none }
def liveFindsRow : OpenClaim := { program := "ytdifolgbppffpaa", sum := "8a6d01baa32ff340f914610d8f3856ab465c56077fa6311b8c98dc4b4ceceecc", func := "alibi/alibilaw23.LiveFinds", spec := "liveFinds", unfollowed := true, recurses := true, apart := false }
def LiveFindsSaid : Prop := liveFindsRow.holds Try.pinned (OpenSpec.ofChange liveFindsSpec)

/-- ITS FALSE NEIGHBOUR: 'it returns false'. Refute it at one input. -/
def liveFindsWrong : ChangeSpec := { name := "liveFinds", fn := fun _ => fun
  | [d] => { results := [.lit (.bool false)], args := [d] }
  | _ => none }
def LiveFindsWrongFalsely : Prop := liveFindsRow.holds Try.pinned (OpenSpec.ofChange liveFindsWrong)

/-- 'alibilaw23.LiveRules': WHATEVER THE INPUT: true; the input reads as it did. -/
def liveRulesSpec : ChangeSpec := { name := "liveRules", fn := fun _ => fun
  | [d1, d2] => { results := [.lit (.bool true)], args := [d1, d2] }
  | _ => none }
def liveRulesRow : OpenClaim := { program := "ytdifolgbppffpaa", sum := "8a6d01baa32ff340f914610d8f3856ab465c56077fa6311b8c98dc4b4ceceecc", func := "alibi/alibilaw23.LiveRules", spec := "liveRules", unfollowed := true, recurses := true, apart := false }
def LiveRulesSaid : Prop := liveRulesRow.holds Try.pinned (OpenSpec.ofChange liveRulesSpec)

/-- ITS FALSE NEIGHBOUR: 'it returns false'. Refute it at one input. -/
def liveRulesWrong : ChangeSpec := { name := "liveRules", fn := fun _ => fun
  | [d1, d2] => { results := [.lit (.bool false)], args := [d1, d2] }
  | _ => none }
def LiveRulesWrongFalsely : Prop := liveRulesRow.holds Try.pinned (OpenSpec.ofChange liveRulesWrong)

/-- 'alibilaw23.LiveBest': WHATEVER THE INPUT: true; the input reads as it did. -/
def liveBestSpec : ChangeSpec := { name := "liveBest", fn := fun _ => fun
  | [d1, d2] => { results := [.lit (.bool true)], args := [d1, d2] }
  | _ => none }
def liveBestRow : OpenClaim := { program := "ytdifolgbppffpaa", sum := "8a6d01baa32ff340f914610d8f3856ab465c56077fa6311b8c98dc4b4ceceecc", func := "alibi/alibilaw23.LiveBest", spec := "liveBest", unfollowed := true, recurses := true, apart := false }
def LiveBestSaid : Prop := liveBestRow.holds Try.pinned (OpenSpec.ofChange liveBestSpec)

/-- ITS FALSE NEIGHBOUR: 'it returns false'. Refute it at one input. -/
def liveBestWrong : ChangeSpec := { name := "liveBest", fn := fun _ => fun
  | [d1, d2] => { results := [.lit (.bool false)], args := [d1, d2] }
  | _ => none }
def LiveBestWrongFalsely : Prop := liveBestRow.holds Try.pinned (OpenSpec.ofChange liveBestWrong)

/- THE SECOND FORM. 'bulk': how many values and letters a reading holds, each counted each time it is reached (what is shared counts as often as it is met; a slice's spare places count too). A statement '..UptoSaid' is the law's where the arguments, and the package variables that the reading takes, are together of bulk at most 1048576: NARROWER than '..Said'. Prove '..Said' where nothing that the law and all that it calls make is longer than what came in: it says more and counts as full. Else prove '..UptoSaid'. A law counts once. -/
mutual
def uptoBulk {H : Type} : DataW H → Nat
  | .lit (.string bytes) => bytes.length + 1
  | .lit _ => 1
  | .nil => 1
  | .ptr d => uptoBulk d + 1
  | .slice elems spare => uptoBulkAll elems + uptoBulkAll spare + 1
  | .agg parts => uptoBulkAll parts + 1
  | .iface _ d => uptoBulk d + 1
  | .map entries => uptoBulkEntries entries + 1
  | .held _ => 1
def uptoBulkAll {H : Type} : List (DataW H) → Nat
  | [] => 0
  | d :: r => uptoBulk d + uptoBulkAll r
def uptoBulkEntries {H : Type} : List (Lit × DataW H) → Nat
  | [] => 0
  | x :: r => uptoBulkEntry x + uptoBulkEntries r
def uptoBulkEntry {H : Type} : Lit × DataW H → Nat
  | (.string bytes, d) => bytes.length + uptoBulk d + 1
  | (_, d) => uptoBulk d + 1
 end
def uptoSmall : (H : Type) → List (DataW H) → Bool := fun _ ds => decide (uptoBulkAll ds ≤ 1048576)
def OpenSpec.upto (s : _root_.Go.ChangeSpec) : _root_.Go.OpenSpec := { _root_.Go.OpenSpec.ofChange s with cond := some uptoSmall }

/-- 'alibilaw22.HoldFinds', WHERE WHAT IT READS IS OF BULK AT MOST 1048576: true; the input reads as it did. -/
def holdFindsUptoRow : OpenClaim := { program := "ytdifolgbppffpaa", sum := "8a6d01baa32ff340f914610d8f3856ab465c56077fa6311b8c98dc4b4ceceecc", func := "alibi/alibilaw22.HoldFinds", spec := "holdFinds", unfollowed := true, recurses := true, apart := false, narrowed := true }
def HoldFindsUptoSaid : Prop := holdFindsUptoRow.holds Try.pinned (OpenSpec.upto holdFindsSpec)

/-- 'alibilaw22.HoldRules', WHERE WHAT IT READS IS OF BULK AT MOST 1048576: true; the input reads as it did. -/
def holdRulesUptoRow : OpenClaim := { program := "ytdifolgbppffpaa", sum := "8a6d01baa32ff340f914610d8f3856ab465c56077fa6311b8c98dc4b4ceceecc", func := "alibi/alibilaw22.HoldRules", spec := "holdRules", unfollowed := true, recurses := true, apart := false, narrowed := true }
def HoldRulesUptoSaid : Prop := holdRulesUptoRow.holds Try.pinned (OpenSpec.upto holdRulesSpec)

/-- 'alibilaw22.HoldBest', WHERE WHAT IT READS IS OF BULK AT MOST 1048576: true; the input reads as it did. -/
def holdBestUptoRow : OpenClaim := { program := "ytdifolgbppffpaa", sum := "8a6d01baa32ff340f914610d8f3856ab465c56077fa6311b8c98dc4b4ceceecc", func := "alibi/alibilaw22.HoldBest", spec := "holdBest", unfollowed := true, recurses := true, apart := false, narrowed := true }
def HoldBestUptoSaid : Prop := holdBestUptoRow.holds Try.pinned (OpenSpec.upto holdBestSpec)

/-- 'alibilaw23.LiveFinds', WHERE WHAT IT READS IS OF BULK AT MOST 1048576: true; the input reads as it did. -/
def liveFindsUptoRow : OpenClaim := { program := "ytdifolgbppffpaa", sum := "8a6d01baa32ff340f914610d8f3856ab465c56077fa6311b8c98dc4b4ceceecc", func := "alibi/alibilaw23.LiveFinds", spec := "liveFinds", unfollowed := true, recurses := true, apart := false, narrowed := true }
def LiveFindsUptoSaid : Prop := liveFindsUptoRow.holds Try.pinned (OpenSpec.upto liveFindsSpec)

/-- 'alibilaw23.LiveRules', WHERE WHAT IT READS IS OF BULK AT MOST 1048576: true; the input reads as it did. -/
def liveRulesUptoRow : OpenClaim := { program := "ytdifolgbppffpaa", sum := "8a6d01baa32ff340f914610d8f3856ab465c56077fa6311b8c98dc4b4ceceecc", func := "alibi/alibilaw23.LiveRules", spec := "liveRules", unfollowed := true, recurses := true, apart := false, narrowed := true }
def LiveRulesUptoSaid : Prop := liveRulesUptoRow.holds Try.pinned (OpenSpec.upto liveRulesSpec)

/-- 'alibilaw23.LiveBest', WHERE WHAT IT READS IS OF BULK AT MOST 1048576: true; the input reads as it did. -/
def liveBestUptoRow : OpenClaim := { program := "ytdifolgbppffpaa", sum := "8a6d01baa32ff340f914610d8f3856ab465c56077fa6311b8c98dc4b4ceceecc", func := "alibi/alibilaw23.LiveBest", spec := "liveBest", unfollowed := true, recurses := true, apart := false, narrowed := true }
def LiveBestUptoSaid : Prop := liveBestUptoRow.holds Try.pinned (OpenSpec.upto liveBestSpec)

end Rows
end Go.Proofs.Ytdifolgbppffpaa
