/- Where nodes lead to. -/
import Derived.Test.YtldkmmnffjdliaaGLawCheck3
namespace Go.Bm.GoYtldkmmnffjdliaa
set_option autoImplicit false
set_option linter.unusedVariables false
set_option linter.unusedSimpArgs false
set_option maxRecDepth 100000
def succ (x : api_Node) : List Int := if x.kind = 9 then [] else if x.kind = 8 then [x.next, x.alt] else [x.next]
theorem succ_eq (x : api_Node) : prog_Succ x = some (succ x) := by
  unfold prog_Succ succ
  by_cases h : x.kind = 9
  · rw [if_pos (eqT h), if_pos h]
  · rw [if_neg (eqF h), if_neg h]
    by_cases h8 : x.kind = 8
    · rw [if_pos (eqT h8), if_pos h8]
    · rw [if_neg (eqF h8), if_neg h8]
theorem refsucc_eq (x : api_Node) : alibiref05_Succ x = some (succ x) := by
  unfold alibiref05_Succ succ
  by_cases h : x.kind = 9
  · rw [if_pos (eqT h), if_pos h]
  · rw [if_neg (eqF h), if_neg h]
    by_cases h8 : x.kind = 8
    · rw [if_pos (eqT h8), if_pos h8]
    · rw [if_neg (eqF h8), if_neg h8]
theorem succ_len (x : api_Node) : (succ x).length ≤ 2 := by
  unfold succ
  split
  · simp
  · split <;> simp
theorem succ_ok {p : api_Program} {x : api_Node} {n : Int} (h : NodeOk p x n) (hn : 1 ≤ n) : ∀ y ∈ succ x, 0 ≤ y ∧ y < n := by
  intro y hy
  unfold succ at hy
  split at hy
  · cases hy
  · rename_i h9
    have h1 := h.next h9
    split at hy
    · rename_i h8
      have h2 := h.alt h8
      simp at hy
      rcases hy with rfl | rfl <;> omega
    · simp at hy
      subst hy; omega
end Go.Bm.GoYtldkmmnffjdliaa
