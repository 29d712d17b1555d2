/- The abstract machine: functions walked by hand. -/
import Derived.Test.YtigopdlofamhlaaDoorBmWalk
namespace Go.Bm
set_option autoImplicit false
set_option linter.unusedVariables false
set_option linter.unusedSimpArgs false

/-- A world that grew alone. -/
structure Grown (w W : World) : Prop where
  size : w.heap.size ≤ W.heap.size
  old : ∀ g, g < w.heap.size → W.heap[g]? = w.heap[g]?
  os : W.os = w.os
  tape : W.tape = w.tape
  output : W.output = w.output
/-- What is walked by hand, of values without addresses. -/
theorem does_hand {P : Program} {f : FuncId} {args : List AV} {v : AV} (h : ∀ (X : Ctx) (Args : List Value), Args.length = args.length → (∀ (j : Nat) (v : AV) (V : Value), args[j]? = some v → Args[j]? = some V → VA X none v V) → GloOk X →
    Calls P f Args.toArray X.w fun e w' => ∃ V, e = .returned V ∧ Grown X.w w' ∧ ∀ Y, VA Y none v V) : Does P f args [] (v, []) := by
  intro X Args hl ha hH hF hG
  refine (h X Args hl ha hG).mono fun e w' he => ?_
  obtain ⟨V, e1, g, hv⟩ := he
  have hno : ∀ b ρ L, X.loc b ρ = some L → False := fun b ρ L hL => absurd (hH.lt b ρ L hL) (Nat.not_lt_zero b)
  refine ⟨V, { X with w := w' }, e1, rfl, ⟨g.size, g.os, g.tape, g.output, fun k hk => .inr (g.old k hk), fun k hk => ?_, fun _ _ hr => hr, fun _ _ hr _ => .inl hr⟩, fun b B hB => by simp at hB, ⟨fun b B hB => by simp at hB, fun b ρ L hL => (hno b ρ L hL).elim, fun b ρ c τ L M hL => (hno b ρ L hL).elim, fun b ρ L hL => (hno b ρ L hL).elim⟩, fun k hk off hr => hF k (Nat.le_trans g.size hk) off hr, hv _⟩
  obtain ⟨b, ρ, L, hL, _⟩ := hk
  exact (hno b ρ L hL).elim
end Go.Bm
