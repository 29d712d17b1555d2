/-
  No cell of these rows narrows 'for every input' (looked for: loops, veiled, ifaces, maps, wideKeys, modest, calm, conditions, laid).
  DERIVED. THE GIVEN ROWS OF THIS SEAT. 22 by the template 'for every input the law returns true; each argument reads behind the call as it read before'; 0 by the template 'total and deterministic' (their statements: YtldkmmnffjdliaaTotals.lean).
  GIVEN WITH THE SEED: the statements are not yours to turn. If you find one false, say at which input.
  Laid BY PROGRAM, IN A SANDBOX (cutbox-rows.mjs): the forced cells as the released guide's own fill.sh prints them over the translation fa7864fbbe854125… (all of the seat's roots in one cut). By AI agents, Wed Nov 11 2026. No macro, syntax, notation, axiom, sorry.
-/
import Derived.Test.YtldkmmnffjdliaaChecked
import GoSem.Claim
import GoSem.ClaimJoined
import GoSem.ClaimMapViews
import Derived.JoinedTies
import Derived.KernelRfl
namespace Go.Proofs.Ytldkmmnffjdliaa
/- THE CELL 'sum', in the pinned program and in every row, IS THE sha256 OF THE DUMP (.gsa) THAT YtldkmmnffjdliaaProg.lean LOADS. Nothing in Lean hashes anything: it is a label: what it is worth is what the hold of that sum in a sandbox is worth. -/
noncomputable def Try.pinned : Pinned := { name := "ytldkmmnffjdliaa", sum := "fa7864fbbe8541251f987246623403372f90c2cd33af301598fe6d9fcb35a61b", checked := Try.checked }
namespace Rows
def none {H : Type} : Left H := { results := [], args := [] }

/-- 'alibilaw16.MayBehind': WHATEVER THE INPUT: true; the input reads as it did. -/
def mayBehindSpec : ChangeSpec := { name := "mayBehind", fn := fun _ => fun
  | [d1, d2, d3, d4, d5, d6] => { results := [.lit (.bool true)], args := [d1, d2, d3, d4, d5, d6] }
  | _ => none }
def mayBehindRow : OpenClaim := { program := "ytldkmmnffjdliaa", sum := "fa7864fbbe8541251f987246623403372f90c2cd33af301598fe6d9fcb35a61b", func := "alibi/alibilaw16.MayBehind", spec := "mayBehind", apart := false }
def MayBehindSaid : Prop := mayBehindRow.holds Try.pinned (OpenSpec.ofChange mayBehindSpec)

/-- ITS FALSE NEIGHBOUR: 'it returns false'. Refute it at one input. -/
def mayBehindWrong : ChangeSpec := { name := "mayBehind", fn := fun _ => fun
  | [d1, d2, d3, d4, d5, d6] => { results := [.lit (.bool false)], args := [d1, d2, d3, d4, d5, d6] }
  | _ => none }
def MayBehindWrongFalsely : Prop := mayBehindRow.holds Try.pinned (OpenSpec.ofChange mayBehindWrong)

/-- 'alibilaw21.FlowValues': WHATEVER THE INPUT: true; the input reads as it did. -/
def flowValuesSpec : ChangeSpec := { name := "flowValues", fn := fun _ => fun
  | [d1, d2] => { results := [.lit (.bool true)], args := [d1, d2] }
  | _ => none }
def flowValuesRow : OpenClaim := { program := "ytldkmmnffjdliaa", sum := "fa7864fbbe8541251f987246623403372f90c2cd33af301598fe6d9fcb35a61b", func := "alibi/alibilaw21.FlowValues", spec := "flowValues", unfollowed := true, recurses := true, apart := false }
def FlowValuesSaid : Prop := flowValuesRow.holds Try.pinned (OpenSpec.ofChange flowValuesSpec)

/-- ITS FALSE NEIGHBOUR: 'it returns false'. Refute it at one input. -/
def flowValuesWrong : ChangeSpec := { name := "flowValues", fn := fun _ => fun
  | [d1, d2] => { results := [.lit (.bool false)], args := [d1, d2] }
  | _ => none }
def FlowValuesWrongFalsely : Prop := flowValuesRow.holds Try.pinned (OpenSpec.ofChange flowValuesWrong)

/-- 'alibilaw21.FlowSolves': WHATEVER THE INPUT: true; the input reads as it did. -/
def flowSolvesSpec : ChangeSpec := { name := "flowSolves", fn := fun _ => fun
  | [d1, d2, d3] => { results := [.lit (.bool true)], args := [d1, d2, d3] }
  | _ => none }
def flowSolvesRow : OpenClaim := { program := "ytldkmmnffjdliaa", sum := "fa7864fbbe8541251f987246623403372f90c2cd33af301598fe6d9fcb35a61b", func := "alibi/alibilaw21.FlowSolves", spec := "flowSolves", unfollowed := true, recurses := true, apart := false }
def FlowSolvesSaid : Prop := flowSolvesRow.holds Try.pinned (OpenSpec.ofChange flowSolvesSpec)

/-- ITS FALSE NEIGHBOUR: 'it returns false'. Refute it at one input. -/
def flowSolvesWrong : ChangeSpec := { name := "flowSolves", fn := fun _ => fun
  | [d1, d2, d3] => { results := [.lit (.bool false)], args := [d1, d2, d3] }
  | _ => none }
def FlowSolvesWrongFalsely : Prop := flowSolvesRow.holds Try.pinned (OpenSpec.ofChange flowSolvesWrong)

/-- 'alibilaw21.FlowKeeps': WHATEVER THE INPUT: true; the input reads as it did. -/
def flowKeepsSpec : ChangeSpec := { name := "flowKeeps", fn := fun _ => fun
  | [d1, d2, d3] => { results := [.lit (.bool true)], args := [d1, d2, d3] }
  | _ => none }
def flowKeepsRow : OpenClaim := { program := "ytldkmmnffjdliaa", sum := "fa7864fbbe8541251f987246623403372f90c2cd33af301598fe6d9fcb35a61b", func := "alibi/alibilaw21.FlowKeeps", spec := "flowKeeps", unfollowed := true, recurses := true, apart := false }
def FlowKeepsSaid : Prop := flowKeepsRow.holds Try.pinned (OpenSpec.ofChange flowKeepsSpec)

/-- ITS FALSE NEIGHBOUR: 'it returns false'. Refute it at one input. -/
def flowKeepsWrong : ChangeSpec := { name := "flowKeeps", fn := fun _ => fun
  | [d1, d2, d3] => { results := [.lit (.bool false)], args := [d1, d2, d3] }
  | _ => none }
def FlowKeepsWrongFalsely : Prop := flowKeepsRow.holds Try.pinned (OpenSpec.ofChange flowKeepsWrong)

/-- 'alibilaw21.FlowBest': WHATEVER THE INPUT: true; the input reads as it did. -/
def flowBestSpec : ChangeSpec := { name := "flowBest", fn := fun _ => fun
  | [d1, d2, d3] => { results := [.lit (.bool true)], args := [d1, d2, d3] }
  | _ => none }
def flowBestRow : OpenClaim := { program := "ytldkmmnffjdliaa", sum := "fa7864fbbe8541251f987246623403372f90c2cd33af301598fe6d9fcb35a61b", func := "alibi/alibilaw21.FlowBest", spec := "flowBest", unfollowed := true, recurses := true, apart := false }
def FlowBestSaid : Prop := flowBestRow.holds Try.pinned (OpenSpec.ofChange flowBestSpec)

/-- ITS FALSE NEIGHBOUR: 'it returns false'. Refute it at one input. -/
def flowBestWrong : ChangeSpec := { name := "flowBest", fn := fun _ => fun
  | [d1, d2, d3] => { results := [.lit (.bool false)], args := [d1, d2, d3] }
  | _ => none }
def FlowBestWrongFalsely : Prop := flowBestRow.holds Try.pinned (OpenSpec.ofChange flowBestWrong)

/-- 'alibilaw21.FlowMore': WHATEVER THE INPUT: true; the input reads as it did. -/
def flowMoreSpec : ChangeSpec := { name := "flowMore", fn := fun _ => fun
  | [d1, d2, d3, d4] => { results := [.lit (.bool true)], args := [d1, d2, d3, d4] }
  | _ => none }
def flowMoreRow : OpenClaim := { program := "ytldkmmnffjdliaa", sum := "fa7864fbbe8541251f987246623403372f90c2cd33af301598fe6d9fcb35a61b", func := "alibi/alibilaw21.FlowMore", spec := "flowMore", unfollowed := true, recurses := true, apart := false }
def FlowMoreSaid : Prop := flowMoreRow.holds Try.pinned (OpenSpec.ofChange flowMoreSpec)

/-- ITS FALSE NEIGHBOUR: 'it returns false'. Refute it at one input. -/
def flowMoreWrong : ChangeSpec := { name := "flowMore", fn := fun _ => fun
  | [d1, d2, d3, d4] => { results := [.lit (.bool false)], args := [d1, d2, d3, d4] }
  | _ => none }
def FlowMoreWrongFalsely : Prop := flowMoreRow.holds Try.pinned (OpenSpec.ofChange flowMoreWrong)

/-- 'alibilaw06.GraphOrders': WHATEVER THE INPUT: true; the input reads as it did. -/
def graphOrdersSpec : ChangeSpec := { name := "graphOrders", fn := fun _ => fun
  | [d] => { results := [.lit (.bool true)], args := [d] }
  | _ => none }
def graphOrdersRow : OpenClaim := { program := "ytldkmmnffjdliaa", sum := "fa7864fbbe8541251f987246623403372f90c2cd33af301598fe6d9fcb35a61b", func := "alibi/alibilaw06.GraphOrders", spec := "graphOrders", unfollowed := true, recurses := true, apart := false }
def GraphOrdersSaid : Prop := graphOrdersRow.holds Try.pinned (OpenSpec.ofChange graphOrdersSpec)

/-- ITS FALSE NEIGHBOUR: 'it returns false'. Refute it at one input. -/
def graphOrdersWrong : ChangeSpec := { name := "graphOrders", fn := fun _ => fun
  | [d] => { results := [.lit (.bool false)], args := [d] }
  | _ => none }
def GraphOrdersWrongFalsely : Prop := graphOrdersRow.holds Try.pinned (OpenSpec.ofChange graphOrdersWrong)

/-- 'alibilaw06.GraphBoth': WHATEVER THE INPUT: true; the input reads as it did. -/
def graphBothSpec : ChangeSpec := { name := "graphBoth", fn := fun _ => fun
  | [d1, d2, d3] => { results := [.lit (.bool true)], args := [d1, d2, d3] }
  | _ => none }
def graphBothRow : OpenClaim := { program := "ytldkmmnffjdliaa", sum := "fa7864fbbe8541251f987246623403372f90c2cd33af301598fe6d9fcb35a61b", func := "alibi/alibilaw06.GraphBoth", spec := "graphBoth", unfollowed := true, recurses := true, apart := false }
def GraphBothSaid : Prop := graphBothRow.holds Try.pinned (OpenSpec.ofChange graphBothSpec)

/-- ITS FALSE NEIGHBOUR: 'it returns false'. Refute it at one input. -/
def graphBothWrong : ChangeSpec := { name := "graphBoth", fn := fun _ => fun
  | [d1, d2, d3] => { results := [.lit (.bool false)], args := [d1, d2, d3] }
  | _ => none }
def GraphBothWrongFalsely : Prop := graphBothRow.holds Try.pinned (OpenSpec.ofChange graphBothWrong)

/-- 'alibilaw06.GraphNodes': WHATEVER THE INPUT: true; the input reads as it did. -/
def graphNodesSpec : ChangeSpec := { name := "graphNodes", fn := fun _ => fun
  | [d1, d2] => { results := [.lit (.bool true)], args := [d1, d2] }
  | _ => none }
def graphNodesRow : OpenClaim := { program := "ytldkmmnffjdliaa", sum := "fa7864fbbe8541251f987246623403372f90c2cd33af301598fe6d9fcb35a61b", func := "alibi/alibilaw06.GraphNodes", spec := "graphNodes", unfollowed := true, recurses := true, apart := false }
def GraphNodesSaid : Prop := graphNodesRow.holds Try.pinned (OpenSpec.ofChange graphNodesSpec)

/-- ITS FALSE NEIGHBOUR: 'it returns false'. Refute it at one input. -/
def graphNodesWrong : ChangeSpec := { name := "graphNodes", fn := fun _ => fun
  | [d1, d2] => { results := [.lit (.bool false)], args := [d1, d2] }
  | _ => none }
def GraphNodesWrongFalsely : Prop := graphNodesRow.holds Try.pinned (OpenSpec.ofChange graphNodesWrong)

/-- 'alibilaw06.GraphBehind': WHATEVER THE INPUT: true; the input reads as it did. -/
def graphBehindSpec : ChangeSpec := { name := "graphBehind", fn := fun _ => fun
  | [d1, d2] => { results := [.lit (.bool true)], args := [d1, d2] }
  | _ => none }
def graphBehindRow : OpenClaim := { program := "ytldkmmnffjdliaa", sum := "fa7864fbbe8541251f987246623403372f90c2cd33af301598fe6d9fcb35a61b", func := "alibi/alibilaw06.GraphBehind", spec := "graphBehind", unfollowed := true, recurses := true, apart := false }
def GraphBehindSaid : Prop := graphBehindRow.holds Try.pinned (OpenSpec.ofChange graphBehindSpec)

/-- ITS FALSE NEIGHBOUR: 'it returns false'. Refute it at one input. -/
def graphBehindWrong : ChangeSpec := { name := "graphBehind", fn := fun _ => fun
  | [d1, d2] => { results := [.lit (.bool false)], args := [d1, d2] }
  | _ => none }
def GraphBehindWrongFalsely : Prop := graphBehindRow.holds Try.pinned (OpenSpec.ofChange graphBehindWrong)

/-- 'alibilaw14.KillTells': WHATEVER THE INPUT: true; the input reads as it did. -/
def killTellsSpec : ChangeSpec := { name := "killTells", fn := fun _ => fun
  | [d] => { results := [.lit (.bool true)], args := [d] }
  | _ => none }
def killTellsRow : OpenClaim := { program := "ytldkmmnffjdliaa", sum := "fa7864fbbe8541251f987246623403372f90c2cd33af301598fe6d9fcb35a61b", func := "alibi/alibilaw14.KillTells", spec := "killTells", unfollowed := true, recurses := true, apart := false }
def KillTellsSaid : Prop := killTellsRow.holds Try.pinned (OpenSpec.ofChange killTellsSpec)

/-- ITS FALSE NEIGHBOUR: 'it returns false'. Refute it at one input. -/
def killTellsWrong : ChangeSpec := { name := "killTells", fn := fun _ => fun
  | [d] => { results := [.lit (.bool false)], args := [d] }
  | _ => none }
def KillTellsWrongFalsely : Prop := killTellsRow.holds Try.pinned (OpenSpec.ofChange killTellsWrong)

/-- 'alibilaw14.KillCalls': WHATEVER THE INPUT: true; the input reads as it did. -/
def killCallsSpec : ChangeSpec := { name := "killCalls", fn := fun _ => fun
  | [d] => { results := [.lit (.bool true)], args := [d] }
  | _ => none }
def killCallsRow : OpenClaim := { program := "ytldkmmnffjdliaa", sum := "fa7864fbbe8541251f987246623403372f90c2cd33af301598fe6d9fcb35a61b", func := "alibi/alibilaw14.KillCalls", spec := "killCalls", unfollowed := true, recurses := true, apart := false }
def KillCallsSaid : Prop := killCallsRow.holds Try.pinned (OpenSpec.ofChange killCallsSpec)

/-- ITS FALSE NEIGHBOUR: 'it returns false'. Refute it at one input. -/
def killCallsWrong : ChangeSpec := { name := "killCalls", fn := fun _ => fun
  | [d] => { results := [.lit (.bool false)], args := [d] }
  | _ => none }
def KillCallsWrongFalsely : Prop := killCallsRow.holds Try.pinned (OpenSpec.ofChange killCallsWrong)

/-- 'alibilaw15.MustChecks': WHATEVER THE INPUT: true; the input reads as it did. -/
def mustChecksSpec : ChangeSpec := { name := "mustChecks", fn := fun _ => fun
  | [d1, d2] => { results := [.lit (.bool true)], args := [d1, d2] }
  | _ => none }
def mustChecksRow : OpenClaim := { program := "ytldkmmnffjdliaa", sum := "fa7864fbbe8541251f987246623403372f90c2cd33af301598fe6d9fcb35a61b", func := "alibi/alibilaw15.MustChecks", spec := "mustChecks", unfollowed := true, recurses := true, apart := false }
def MustChecksSaid : Prop := mustChecksRow.holds Try.pinned (OpenSpec.ofChange mustChecksSpec)

/-- ITS FALSE NEIGHBOUR: 'it returns false'. Refute it at one input. -/
def mustChecksWrong : ChangeSpec := { name := "mustChecks", fn := fun _ => fun
  | [d1, d2] => { results := [.lit (.bool false)], args := [d1, d2] }
  | _ => none }
def MustChecksWrongFalsely : Prop := mustChecksRow.holds Try.pinned (OpenSpec.ofChange mustChecksWrong)

/-- 'alibilaw15.MustLess': WHATEVER THE INPUT: true; the input reads as it did. -/
def mustLessSpec : ChangeSpec := { name := "mustLess", fn := fun _ => fun
  | [d] => { results := [.lit (.bool true)], args := [d] }
  | _ => none }
def mustLessRow : OpenClaim := { program := "ytldkmmnffjdliaa", sum := "fa7864fbbe8541251f987246623403372f90c2cd33af301598fe6d9fcb35a61b", func := "alibi/alibilaw15.MustLess", spec := "mustLess", unfollowed := true, recurses := true, apart := false }
def MustLessSaid : Prop := mustLessRow.holds Try.pinned (OpenSpec.ofChange mustLessSpec)

/-- ITS FALSE NEIGHBOUR: 'it returns false'. Refute it at one input. -/
def mustLessWrong : ChangeSpec := { name := "mustLess", fn := fun _ => fun
  | [d] => { results := [.lit (.bool false)], args := [d] }
  | _ => none }
def MustLessWrongFalsely : Prop := mustLessRow.holds Try.pinned (OpenSpec.ofChange mustLessWrong)

/-- 'alibilaw15.MustUnion': WHATEVER THE INPUT: true; the input reads as it did. -/
def mustUnionSpec : ChangeSpec := { name := "mustUnion", fn := fun _ => fun
  | [d1, d2, d3] => { results := [.lit (.bool true)], args := [d1, d2, d3] }
  | _ => none }
def mustUnionRow : OpenClaim := { program := "ytldkmmnffjdliaa", sum := "fa7864fbbe8541251f987246623403372f90c2cd33af301598fe6d9fcb35a61b", func := "alibi/alibilaw15.MustUnion", spec := "mustUnion", unfollowed := true, recurses := true, apart := false }
def MustUnionSaid : Prop := mustUnionRow.holds Try.pinned (OpenSpec.ofChange mustUnionSpec)

/-- ITS FALSE NEIGHBOUR: 'it returns false'. Refute it at one input. -/
def mustUnionWrong : ChangeSpec := { name := "mustUnion", fn := fun _ => fun
  | [d1, d2, d3] => { results := [.lit (.bool false)], args := [d1, d2, d3] }
  | _ => none }
def MustUnionWrongFalsely : Prop := mustUnionRow.holds Try.pinned (OpenSpec.ofChange mustUnionWrong)

/-- 'alibilaw16.MayChecks': WHATEVER THE INPUT: true; the input reads as it did. -/
def mayChecksSpec : ChangeSpec := { name := "mayChecks", fn := fun _ => fun
  | [d1, d2] => { results := [.lit (.bool true)], args := [d1, d2] }
  | _ => none }
def mayChecksRow : OpenClaim := { program := "ytldkmmnffjdliaa", sum := "fa7864fbbe8541251f987246623403372f90c2cd33af301598fe6d9fcb35a61b", func := "alibi/alibilaw16.MayChecks", spec := "mayChecks", unfollowed := true, recurses := true, apart := false }
def MayChecksSaid : Prop := mayChecksRow.holds Try.pinned (OpenSpec.ofChange mayChecksSpec)

/-- ITS FALSE NEIGHBOUR: 'it returns false'. Refute it at one input. -/
def mayChecksWrong : ChangeSpec := { name := "mayChecks", fn := fun _ => fun
  | [d1, d2] => { results := [.lit (.bool false)], args := [d1, d2] }
  | _ => none }
def MayChecksWrongFalsely : Prop := mayChecksRow.holds Try.pinned (OpenSpec.ofChange mayChecksWrong)

/-- 'alibilaw16.MayMore': WHATEVER THE INPUT: true; the input reads as it did. -/
def mayMoreSpec : ChangeSpec := { name := "mayMore", fn := fun _ => fun
  | [d] => { results := [.lit (.bool true)], args := [d] }
  | _ => none }
def mayMoreRow : OpenClaim := { program := "ytldkmmnffjdliaa", sum := "fa7864fbbe8541251f987246623403372f90c2cd33af301598fe6d9fcb35a61b", func := "alibi/alibilaw16.MayMore", spec := "mayMore", unfollowed := true, recurses := true, apart := false }
def MayMoreSaid : Prop := mayMoreRow.holds Try.pinned (OpenSpec.ofChange mayMoreSpec)

/-- ITS FALSE NEIGHBOUR: 'it returns false'. Refute it at one input. -/
def mayMoreWrong : ChangeSpec := { name := "mayMore", fn := fun _ => fun
  | [d] => { results := [.lit (.bool false)], args := [d] }
  | _ => none }
def MayMoreWrongFalsely : Prop := mayMoreRow.holds Try.pinned (OpenSpec.ofChange mayMoreWrong)

/-- 'alibilaw16.MayMeet': WHATEVER THE INPUT: true; the input reads as it did. -/
def mayMeetSpec : ChangeSpec := { name := "mayMeet", fn := fun _ => fun
  | [d1, d2, d3] => { results := [.lit (.bool true)], args := [d1, d2, d3] }
  | _ => none }
def mayMeetRow : OpenClaim := { program := "ytldkmmnffjdliaa", sum := "fa7864fbbe8541251f987246623403372f90c2cd33af301598fe6d9fcb35a61b", func := "alibi/alibilaw16.MayMeet", spec := "mayMeet", unfollowed := true, recurses := true, apart := false }
def MayMeetSaid : Prop := mayMeetRow.holds Try.pinned (OpenSpec.ofChange mayMeetSpec)

/-- ITS FALSE NEIGHBOUR: 'it returns false'. Refute it at one input. -/
def mayMeetWrong : ChangeSpec := { name := "mayMeet", fn := fun _ => fun
  | [d1, d2, d3] => { results := [.lit (.bool false)], args := [d1, d2, d3] }
  | _ => none }
def MayMeetWrongFalsely : Prop := mayMeetRow.holds Try.pinned (OpenSpec.ofChange mayMeetWrong)

/-- 'alibilaw14.KillKeeps': WHATEVER THE INPUT: true; the input reads as it did. -/
def killKeepsSpec : ChangeSpec := { name := "killKeeps", fn := fun _ => fun
  | [d1, d2] => { results := [.lit (.bool true)], args := [d1, d2] }
  | _ => none }
def killKeepsRow : OpenClaim := { program := "ytldkmmnffjdliaa", sum := "fa7864fbbe8541251f987246623403372f90c2cd33af301598fe6d9fcb35a61b", func := "alibi/alibilaw14.KillKeeps", spec := "killKeeps", unfollowed := true, recurses := true, apart := false }
def KillKeepsSaid : Prop := killKeepsRow.holds Try.pinned (OpenSpec.ofChange killKeepsSpec)

/-- ITS FALSE NEIGHBOUR: 'it returns false'. Refute it at one input. -/
def killKeepsWrong : ChangeSpec := { name := "killKeeps", fn := fun _ => fun
  | [d1, d2] => { results := [.lit (.bool false)], args := [d1, d2] }
  | _ => none }
def KillKeepsWrongFalsely : Prop := killKeepsRow.holds Try.pinned (OpenSpec.ofChange killKeepsWrong)

/-- 'alibilaw14.KillTrue': WHATEVER THE INPUT: true; the input reads as it did. -/
def killTrueSpec : ChangeSpec := { name := "killTrue", fn := fun _ => fun
  | [d1, d2] => { results := [.lit (.bool true)], args := [d1, d2] }
  | _ => none }
def killTrueRow : OpenClaim := { program := "ytldkmmnffjdliaa", sum := "fa7864fbbe8541251f987246623403372f90c2cd33af301598fe6d9fcb35a61b", func := "alibi/alibilaw14.KillTrue", spec := "killTrue", unfollowed := true, recurses := true, apart := false }
def KillTrueSaid : Prop := killTrueRow.holds Try.pinned (OpenSpec.ofChange killTrueSpec)

/-- ITS FALSE NEIGHBOUR: 'it returns false'. Refute it at one input. -/
def killTrueWrong : ChangeSpec := { name := "killTrue", fn := fun _ => fun
  | [d1, d2] => { results := [.lit (.bool false)], args := [d1, d2] }
  | _ => none }
def KillTrueWrongFalsely : Prop := killTrueRow.holds Try.pinned (OpenSpec.ofChange killTrueWrong)

/-- 'alibilaw16.MayLives': WHATEVER THE INPUT: true; the input reads as it did. -/
def mayLivesSpec : ChangeSpec := { name := "mayLives", fn := fun _ => fun
  | [d1, d2, d3] => { results := [.lit (.bool true)], args := [d1, d2, d3] }
  | _ => none }
def mayLivesRow : OpenClaim := { program := "ytldkmmnffjdliaa", sum := "fa7864fbbe8541251f987246623403372f90c2cd33af301598fe6d9fcb35a61b", func := "alibi/alibilaw16.MayLives", spec := "mayLives", unfollowed := true, recurses := true, apart := false }
def MayLivesSaid : Prop := mayLivesRow.holds Try.pinned (OpenSpec.ofChange mayLivesSpec)

/-- ITS FALSE NEIGHBOUR: 'it returns false'. Refute it at one input. -/
def mayLivesWrong : ChangeSpec := { name := "mayLives", fn := fun _ => fun
  | [d1, d2, d3] => { results := [.lit (.bool false)], args := [d1, d2, d3] }
  | _ => none }
def MayLivesWrongFalsely : Prop := mayLivesRow.holds Try.pinned (OpenSpec.ofChange mayLivesWrong)

/-- 'alibilaw15.MustHolds': WHATEVER THE INPUT: true; the input reads as it did. -/
def mustHoldsSpec : ChangeSpec := { name := "mustHolds", fn := fun _ => fun
  | [d1, d2, d3] => { results := [.lit (.bool true)], args := [d1, d2, d3] }
  | _ => none }
def mustHoldsRow : OpenClaim := { program := "ytldkmmnffjdliaa", sum := "fa7864fbbe8541251f987246623403372f90c2cd33af301598fe6d9fcb35a61b", func := "alibi/alibilaw15.MustHolds", spec := "mustHolds", unfollowed := true, recurses := true, apart := false }
def MustHoldsSaid : Prop := mustHoldsRow.holds Try.pinned (OpenSpec.ofChange mustHoldsSpec)

/-- ITS FALSE NEIGHBOUR: 'it returns false'. Refute it at one input. -/
def mustHoldsWrong : ChangeSpec := { name := "mustHolds", fn := fun _ => fun
  | [d1, d2, d3] => { results := [.lit (.bool false)], args := [d1, d2, d3] }
  | _ => none }
def MustHoldsWrongFalsely : Prop := mustHoldsRow.holds Try.pinned (OpenSpec.ofChange mustHoldsWrong)

/- THE SECOND FORM. 'bulk': how many values and letters a reading holds, each counted each time it is reached (what is shared counts as often as it is met; a slice's spare places count too). A statement '..UptoSaid' is the law's where the arguments, and the package variables that the reading takes, are together of bulk at most 1048576: NARROWER than '..Said'. Prove '..Said' where nothing that the law and all that it calls make is longer than what came in: it says more and counts as full. Else prove '..UptoSaid'. A law counts once. -/
mutual
def uptoBulk {H : Type} : DataW H → Nat
  | .lit (.string bytes) => bytes.length + 1
  | .lit _ => 1
  | .nil => 1
  | .ptr d => uptoBulk d + 1
  | .slice elems spare => uptoBulkAll elems + uptoBulkAll spare + 1
  | .agg parts => uptoBulkAll parts + 1
  | .iface _ d => uptoBulk d + 1
  | .map entries => uptoBulkEntries entries + 1
  | .held _ => 1
def uptoBulkAll {H : Type} : List (DataW H) → Nat
  | [] => 0
  | d :: r => uptoBulk d + uptoBulkAll r
def uptoBulkEntries {H : Type} : List (Lit × DataW H) → Nat
  | [] => 0
  | x :: r => uptoBulkEntry x + uptoBulkEntries r
def uptoBulkEntry {H : Type} : Lit × DataW H → Nat
  | (.string bytes, d) => bytes.length + uptoBulk d + 1
  | (_, d) => uptoBulk d + 1
 end
def uptoSmall : (H : Type) → List (DataW H) → Bool := fun _ ds => decide (uptoBulkAll ds ≤ 1048576)
def OpenSpec.upto (s : _root_.Go.ChangeSpec) : _root_.Go.OpenSpec := { _root_.Go.OpenSpec.ofChange s with cond := some uptoSmall }

/-- 'alibilaw16.MayBehind', WHERE WHAT IT READS IS OF BULK AT MOST 1048576: true; the input reads as it did. -/
def mayBehindUptoRow : OpenClaim := { program := "ytldkmmnffjdliaa", sum := "fa7864fbbe8541251f987246623403372f90c2cd33af301598fe6d9fcb35a61b", func := "alibi/alibilaw16.MayBehind", spec := "mayBehind", apart := false, narrowed := true }
def MayBehindUptoSaid : Prop := mayBehindUptoRow.holds Try.pinned (OpenSpec.upto mayBehindSpec)

/-- 'alibilaw21.FlowValues', WHERE WHAT IT READS IS OF BULK AT MOST 1048576: true; the input reads as it did. -/
def flowValuesUptoRow : OpenClaim := { program := "ytldkmmnffjdliaa", sum := "fa7864fbbe8541251f987246623403372f90c2cd33af301598fe6d9fcb35a61b", func := "alibi/alibilaw21.FlowValues", spec := "flowValues", unfollowed := true, recurses := true, apart := false, narrowed := true }
def FlowValuesUptoSaid : Prop := flowValuesUptoRow.holds Try.pinned (OpenSpec.upto flowValuesSpec)

/-- 'alibilaw21.FlowSolves', WHERE WHAT IT READS IS OF BULK AT MOST 1048576: true; the input reads as it did. -/
def flowSolvesUptoRow : OpenClaim := { program := "ytldkmmnffjdliaa", sum := "fa7864fbbe8541251f987246623403372f90c2cd33af301598fe6d9fcb35a61b", func := "alibi/alibilaw21.FlowSolves", spec := "flowSolves", unfollowed := true, recurses := true, apart := false, narrowed := true }
def FlowSolvesUptoSaid : Prop := flowSolvesUptoRow.holds Try.pinned (OpenSpec.upto flowSolvesSpec)

/-- 'alibilaw21.FlowKeeps', WHERE WHAT IT READS IS OF BULK AT MOST 1048576: true; the input reads as it did. -/
def flowKeepsUptoRow : OpenClaim := { program := "ytldkmmnffjdliaa", sum := "fa7864fbbe8541251f987246623403372f90c2cd33af301598fe6d9fcb35a61b", func := "alibi/alibilaw21.FlowKeeps", spec := "flowKeeps", unfollowed := true, recurses := true, apart := false, narrowed := true }
def FlowKeepsUptoSaid : Prop := flowKeepsUptoRow.holds Try.pinned (OpenSpec.upto flowKeepsSpec)

/-- 'alibilaw21.FlowBest', WHERE WHAT IT READS IS OF BULK AT MOST 1048576: true; the input reads as it did. -/
def flowBestUptoRow : OpenClaim := { program := "ytldkmmnffjdliaa", sum := "fa7864fbbe8541251f987246623403372f90c2cd33af301598fe6d9fcb35a61b", func := "alibi/alibilaw21.FlowBest", spec := "flowBest", unfollowed := true, recurses := true, apart := false, narrowed := true }
def FlowBestUptoSaid : Prop := flowBestUptoRow.holds Try.pinned (OpenSpec.upto flowBestSpec)

/-- 'alibilaw21.FlowMore', WHERE WHAT IT READS IS OF BULK AT MOST 1048576: true; the input reads as it did. -/
def flowMoreUptoRow : OpenClaim := { program := "ytldkmmnffjdliaa", sum := "fa7864fbbe8541251f987246623403372f90c2cd33af301598fe6d9fcb35a61b", func := "alibi/alibilaw21.FlowMore", spec := "flowMore", unfollowed := true, recurses := true, apart := false, narrowed := true }
def FlowMoreUptoSaid : Prop := flowMoreUptoRow.holds Try.pinned (OpenSpec.upto flowMoreSpec)

/-- 'alibilaw06.GraphOrders', WHERE WHAT IT READS IS OF BULK AT MOST 1048576: true; the input reads as it did. -/
def graphOrdersUptoRow : OpenClaim := { program := "ytldkmmnffjdliaa", sum := "fa7864fbbe8541251f987246623403372f90c2cd33af301598fe6d9fcb35a61b", func := "alibi/alibilaw06.GraphOrders", spec := "graphOrders", unfollowed := true, recurses := true, apart := false, narrowed := true }
def GraphOrdersUptoSaid : Prop := graphOrdersUptoRow.holds Try.pinned (OpenSpec.upto graphOrdersSpec)

/-- 'alibilaw06.GraphBoth', WHERE WHAT IT READS IS OF BULK AT MOST 1048576: true; the input reads as it did. -/
def graphBothUptoRow : OpenClaim := { program := "ytldkmmnffjdliaa", sum := "fa7864fbbe8541251f987246623403372f90c2cd33af301598fe6d9fcb35a61b", func := "alibi/alibilaw06.GraphBoth", spec := "graphBoth", unfollowed := true, recurses := true, apart := false, narrowed := true }
def GraphBothUptoSaid : Prop := graphBothUptoRow.holds Try.pinned (OpenSpec.upto graphBothSpec)

/-- 'alibilaw06.GraphNodes', WHERE WHAT IT READS IS OF BULK AT MOST 1048576: true; the input reads as it did. -/
def graphNodesUptoRow : OpenClaim := { program := "ytldkmmnffjdliaa", sum := "fa7864fbbe8541251f987246623403372f90c2cd33af301598fe6d9fcb35a61b", func := "alibi/alibilaw06.GraphNodes", spec := "graphNodes", unfollowed := true, recurses := true, apart := false, narrowed := true }
def GraphNodesUptoSaid : Prop := graphNodesUptoRow.holds Try.pinned (OpenSpec.upto graphNodesSpec)

/-- 'alibilaw06.GraphBehind', WHERE WHAT IT READS IS OF BULK AT MOST 1048576: true; the input reads as it did. -/
def graphBehindUptoRow : OpenClaim := { program := "ytldkmmnffjdliaa", sum := "fa7864fbbe8541251f987246623403372f90c2cd33af301598fe6d9fcb35a61b", func := "alibi/alibilaw06.GraphBehind", spec := "graphBehind", unfollowed := true, recurses := true, apart := false, narrowed := true }
def GraphBehindUptoSaid : Prop := graphBehindUptoRow.holds Try.pinned (OpenSpec.upto graphBehindSpec)

/-- 'alibilaw14.KillTells', WHERE WHAT IT READS IS OF BULK AT MOST 1048576: true; the input reads as it did. -/
def killTellsUptoRow : OpenClaim := { program := "ytldkmmnffjdliaa", sum := "fa7864fbbe8541251f987246623403372f90c2cd33af301598fe6d9fcb35a61b", func := "alibi/alibilaw14.KillTells", spec := "killTells", unfollowed := true, recurses := true, apart := false, narrowed := true }
def KillTellsUptoSaid : Prop := killTellsUptoRow.holds Try.pinned (OpenSpec.upto killTellsSpec)

/-- 'alibilaw14.KillCalls', WHERE WHAT IT READS IS OF BULK AT MOST 1048576: true; the input reads as it did. -/
def killCallsUptoRow : OpenClaim := { program := "ytldkmmnffjdliaa", sum := "fa7864fbbe8541251f987246623403372f90c2cd33af301598fe6d9fcb35a61b", func := "alibi/alibilaw14.KillCalls", spec := "killCalls", unfollowed := true, recurses := true, apart := false, narrowed := true }
def KillCallsUptoSaid : Prop := killCallsUptoRow.holds Try.pinned (OpenSpec.upto killCallsSpec)

/-- 'alibilaw15.MustChecks', WHERE WHAT IT READS IS OF BULK AT MOST 1048576: true; the input reads as it did. -/
def mustChecksUptoRow : OpenClaim := { program := "ytldkmmnffjdliaa", sum := "fa7864fbbe8541251f987246623403372f90c2cd33af301598fe6d9fcb35a61b", func := "alibi/alibilaw15.MustChecks", spec := "mustChecks", unfollowed := true, recurses := true, apart := false, narrowed := true }
def MustChecksUptoSaid : Prop := mustChecksUptoRow.holds Try.pinned (OpenSpec.upto mustChecksSpec)

/-- 'alibilaw15.MustLess', WHERE WHAT IT READS IS OF BULK AT MOST 1048576: true; the input reads as it did. -/
def mustLessUptoRow : OpenClaim := { program := "ytldkmmnffjdliaa", sum := "fa7864fbbe8541251f987246623403372f90c2cd33af301598fe6d9fcb35a61b", func := "alibi/alibilaw15.MustLess", spec := "mustLess", unfollowed := true, recurses := true, apart := false, narrowed := true }
def MustLessUptoSaid : Prop := mustLessUptoRow.holds Try.pinned (OpenSpec.upto mustLessSpec)

/-- 'alibilaw15.MustUnion', WHERE WHAT IT READS IS OF BULK AT MOST 1048576: true; the input reads as it did. -/
def mustUnionUptoRow : OpenClaim := { program := "ytldkmmnffjdliaa", sum := "fa7864fbbe8541251f987246623403372f90c2cd33af301598fe6d9fcb35a61b", func := "alibi/alibilaw15.MustUnion", spec := "mustUnion", unfollowed := true, recurses := true, apart := false, narrowed := true }
def MustUnionUptoSaid : Prop := mustUnionUptoRow.holds Try.pinned (OpenSpec.upto mustUnionSpec)

/-- 'alibilaw16.MayChecks', WHERE WHAT IT READS IS OF BULK AT MOST 1048576: true; the input reads as it did. -/
def mayChecksUptoRow : OpenClaim := { program := "ytldkmmnffjdliaa", sum := "fa7864fbbe8541251f987246623403372f90c2cd33af301598fe6d9fcb35a61b", func := "alibi/alibilaw16.MayChecks", spec := "mayChecks", unfollowed := true, recurses := true, apart := false, narrowed := true }
def MayChecksUptoSaid : Prop := mayChecksUptoRow.holds Try.pinned (OpenSpec.upto mayChecksSpec)

/-- 'alibilaw16.MayMore', WHERE WHAT IT READS IS OF BULK AT MOST 1048576: true; the input reads as it did. -/
def mayMoreUptoRow : OpenClaim := { program := "ytldkmmnffjdliaa", sum := "fa7864fbbe8541251f987246623403372f90c2cd33af301598fe6d9fcb35a61b", func := "alibi/alibilaw16.MayMore", spec := "mayMore", unfollowed := true, recurses := true, apart := false, narrowed := true }
def MayMoreUptoSaid : Prop := mayMoreUptoRow.holds Try.pinned (OpenSpec.upto mayMoreSpec)

/-- 'alibilaw16.MayMeet', WHERE WHAT IT READS IS OF BULK AT MOST 1048576: true; the input reads as it did. -/
def mayMeetUptoRow : OpenClaim := { program := "ytldkmmnffjdliaa", sum := "fa7864fbbe8541251f987246623403372f90c2cd33af301598fe6d9fcb35a61b", func := "alibi/alibilaw16.MayMeet", spec := "mayMeet", unfollowed := true, recurses := true, apart := false, narrowed := true }
def MayMeetUptoSaid : Prop := mayMeetUptoRow.holds Try.pinned (OpenSpec.upto mayMeetSpec)

/-- 'alibilaw14.KillKeeps', WHERE WHAT IT READS IS OF BULK AT MOST 1048576: true; the input reads as it did. -/
def killKeepsUptoRow : OpenClaim := { program := "ytldkmmnffjdliaa", sum := "fa7864fbbe8541251f987246623403372f90c2cd33af301598fe6d9fcb35a61b", func := "alibi/alibilaw14.KillKeeps", spec := "killKeeps", unfollowed := true, recurses := true, apart := false, narrowed := true }
def KillKeepsUptoSaid : Prop := killKeepsUptoRow.holds Try.pinned (OpenSpec.upto killKeepsSpec)

/-- 'alibilaw14.KillTrue', WHERE WHAT IT READS IS OF BULK AT MOST 1048576: true; the input reads as it did. -/
def killTrueUptoRow : OpenClaim := { program := "ytldkmmnffjdliaa", sum := "fa7864fbbe8541251f987246623403372f90c2cd33af301598fe6d9fcb35a61b", func := "alibi/alibilaw14.KillTrue", spec := "killTrue", unfollowed := true, recurses := true, apart := false, narrowed := true }
def KillTrueUptoSaid : Prop := killTrueUptoRow.holds Try.pinned (OpenSpec.upto killTrueSpec)

/-- 'alibilaw16.MayLives', WHERE WHAT IT READS IS OF BULK AT MOST 1048576: true; the input reads as it did. -/
def mayLivesUptoRow : OpenClaim := { program := "ytldkmmnffjdliaa", sum := "fa7864fbbe8541251f987246623403372f90c2cd33af301598fe6d9fcb35a61b", func := "alibi/alibilaw16.MayLives", spec := "mayLives", unfollowed := true, recurses := true, apart := false, narrowed := true }
def MayLivesUptoSaid : Prop := mayLivesUptoRow.holds Try.pinned (OpenSpec.upto mayLivesSpec)

/-- 'alibilaw15.MustHolds', WHERE WHAT IT READS IS OF BULK AT MOST 1048576: true; the input reads as it did. -/
def mustHoldsUptoRow : OpenClaim := { program := "ytldkmmnffjdliaa", sum := "fa7864fbbe8541251f987246623403372f90c2cd33af301598fe6d9fcb35a61b", func := "alibi/alibilaw15.MustHolds", spec := "mustHolds", unfollowed := true, recurses := true, apart := false, narrowed := true }
def MustHoldsUptoSaid : Prop := mustHoldsUptoRow.holds Try.pinned (OpenSpec.upto mustHoldsSpec)

end Rows
end Go.Proofs.Ytldkmmnffjdliaa
