/- The solver's steps. -/
import Derived.Test.YtldkmmnffjdliaaLawFlow3
namespace Go.Bm.GoYtldkmmnffjdliaa
set_option autoImplicit false
set_option linter.unusedVariables false
set_option linter.unusedSimpArgs false
theorem apply_eq (v : List W32) (u : List (List Int)) (b0 : List flow_Rule) (r : flow_Rule) (h0 : 0 ≤ r.to_) (h1 : r.to_ < v.length) :
    flow_solver_apply v u b0 r = some ((gi v r.to_ &&& rval r v) != gi v r.to_, v.set r.to_.toNat (gi v r.to_ &&& rval r v)) := by
  unfold flow_solver_apply flow_meet
  rw [if_pos (decide_eq_true h0), if_pos (decide_eq_true h1), value_eq]
  simp only [bind, Option.bind_some]
  have e : List.getD v r.to_.toNat 0#32 = gi v r.to_ := by unfold gi; rw [if_pos ⟨h0, h1⟩]
  rw [e]
  have e2 : ∀ x : W32, List.getD (List.set v r.to_.toNat x) r.to_.toNat 0#32 = x := fun x => by
    have : r.to_.toNat < v.length := by omega
    simp [List.getD, this]
  rw [e2]
theorem gi_set (v : List W32) (i : Nat) (x : W32) (hi : i < v.length) (j : Int) : gi (v.set i x) j = if j = (i : Int) then x else gi v j := by
  unfold gi
  rw [List.length_set]
  by_cases hj : j = (i : Int)
  · subst hj
    rw [if_pos (by omega), if_pos rfl]
    simp [List.getD, hi]
  · rw [if_neg hj]
    split
    · rename_i h
      have : i ≠ j.toNat := by omega
      simp [List.getD, List.getElem?_set, this]
    · rfl
/-- One more use, where the input is a set. -/
def use1 (n : Nat) (u : List (List Int)) (j k : Int) : List (List Int) := if 0 ≤ j ∧ j < (n : Int) then u.set j.toNat (u.getD j.toNat [] ++ [k]) else u
theorem l9_eq (v : List W32) (x1 : List (List Int)) (x3 : List Int) (x4 : List Bool) (rs : List flow_Rule) (js : List Int) (x7 : List flow_Rule) (x8 x9 x10 : Int) (x11 x12 x13 : W32) (x14 : List flow_Rule) (x15 x16 : Int) (hjs : js.length ≤ 2) :
    ∀ (n i : Nat) (u : List (List Int)), i + n = js.length → u.length = v.length → (∀ j : Nat, (u.getD j []).length + n ≤ 1000000) →
    flow_solver_solve_l9 v x1 u x3 x4 rs js x7 x8 x9 x10 x11 x12 x13 x14 x15 x16 (js.length : Int) (i : Int) = some ((js.drop i).foldl (fun u j => use1 v.length u j (rs.length : Int)) u)
  | 0, i, u, h, hu, hb => by
    rw [flow_solver_solve_l9, if_neg (by simp only [decide_eq_true_eq]; omega), List.drop_eq_nil_of_le (by omega)]
    rfl
  | n + 1, i, u, h, hu, hb => by
    have hi : iAdd (i : Int) 1 = ((i + 1 : Nat) : Int) := by rw [iAdd_eq (by omega) (by omega)]; omega
    have hlt : i < js.length := by omega
    rw [flow_solver_solve_l9, if_pos (decide_eq_true (by omega)), if_pos (decide_eq_true (by omega)), if_pos (decide_eq_true (by omega)), hi]
    have e : List.getD js (Int.toNat (i : Int)) 0 = js[i] := by simp [List.getD, hlt]
    rw [e, List.drop_eq_getElem_cons hlt, List.foldl_cons]
    generalize js[i] = j
    have ih := fun u' hu' hb' => l9_eq v x1 x3 x4 rs js x7 x8 x9 x10 x11 x12 x13 x14 x15 x16 hjs n (i + 1) u' (by omega) hu' hb'
    by_cases h0 : j ≥ 0
    · rw [if_pos (decide_eq_true h0)]
      by_cases h1 : j < (v.length : Int)
      · rw [if_pos (decide_eq_true h1), if_pos (decide_eq_true h0), if_pos (decide_eq_true (by rw [hu]; exact h1))]
        rw [if_pos (Nat.ble_eq_true_of_le (by have := hb j.toNat; simp only [List.length_singleton, reach]; omega))]
        have e1 : use1 v.length u j (rs.length : Int) = u.set j.toNat (u.getD j.toNat [] ++ [(rs.length : Int)]) := if_pos ⟨h0, h1⟩
        rw [e1]
        refine ih _ (by simp [hu]) fun k => ?_
        have hk := hb k
        by_cases hkj : j.toNat = k
        · subst hkj
          have : j.toNat < u.length := by omega
          simp [List.getD, this] at hk ⊢
          omega
        · have : (u.set j.toNat (u.getD j.toNat [] ++ [(rs.length : Int)])).getD k [] = u.getD k [] := by simp [List.getD, List.getElem?_set, hkj]
          rw [this]; omega
      · rw [if_neg (by simpa using h1)]
        have e1 : use1 v.length u j (rs.length : Int) = u := if_neg (by omega)
        rw [e1]
        exact ih u hu fun k => by have := hb k; omega
    · rw [if_neg (by simpa using h0)]
      have e1 : use1 v.length u j (rs.length : Int) = u := if_neg (by omega)
      rw [e1]
      exact ih u hu fun k => by have := hb k; omega
end Go.Bm.GoYtldkmmnffjdliaa
