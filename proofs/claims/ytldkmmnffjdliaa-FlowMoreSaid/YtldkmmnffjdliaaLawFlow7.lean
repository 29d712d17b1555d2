/- The program's solver: the first pass. -/
import Derived.Test.YtldkmmnffjdliaaLawFlow6
namespace Go.Bm.GoYtldkmmnffjdliaa
set_option autoImplicit false
set_option linter.unusedVariables false
set_option linter.unusedSimpArgs false
theorem use1_get (n : Nat) (us : List (List Int)) (hl : us.length = n) (j k : Int) (i0 : Nat) : (use1 n us j k).getD i0 [] = if 0 ≤ j ∧ j < (n : Int) ∧ j.toNat = i0 then us.getD i0 [] ++ [k] else us.getD i0 [] := by
  unfold use1
  by_cases h : 0 ≤ j ∧ j < (n : Int)
  · rw [if_pos h]
    by_cases hi : j.toNat = i0
    · subst hi
      rw [if_pos ⟨h.1, h.2, rfl⟩]
      have : j.toNat < us.length := by omega
      simp [List.getD, this]
    · rw [if_neg (by rintro ⟨_, _, e⟩; exact hi e)]
      simp [List.getD, List.getElem?_set, hi]
  · rw [if_neg h, if_neg (by rintro ⟨a, b, _⟩; exact h ⟨a, b⟩)]
theorem use1_len (n : Nat) (us : List (List Int)) (j k : Int) : (use1 n us j k).length = us.length := by
  unfold use1
  split <;> simp
/-- A rule whose inputs are no sets makes always the same. -/
theorem rval_const {r : flow_Rule} {v w : List W32} (hl : v.length = w.length) (h : ¬ ((0 ≤ r.from_ ∧ r.from_ < (v.length : Int)) ∨ (0 ≤ r.also ∧ r.also < (v.length : Int)))) : rval r v = rval r w := by
  refine rval_congr ?_ ?_
  · unfold gi
    rw [if_neg fun hh => h (.inl hh), if_neg fun hh => h (.inl (by rw [hl]; exact hh))]
  · unfold gi
    rw [if_neg fun hh => h (.inr hh), if_neg fun hh => h (.inr (by rw [hl]; exact hh))]
/-- What is so in the first pass, behind some rules. -/
structure First (n : Nat) (b : List flow_Rule) (v0 v : List W32) (us : List (List Int)) (l : List Int) (tb : List Bool) (rs : List flow_Rule) (i : Nat) : Prop where
  vl : v.length = n
  ul : us.length = n
  wk : WK n l tb
  isr : ∀ r, r ∈ rs ↔ r ∈ b.take i ∧ 0 ≤ r.to_ ∧ r.to_ < (n : Int)
  rl : rs.length ≤ i
  isu : ∀ i0 : Nat, ∀ k ∈ us.getD i0 [], ∃ q : Nat, k = (q : Int) ∧ q < rs.length
  un : ∀ i0 : Nat, (us.getD i0 []).length ≤ 2 * i
  use : ∀ (q : Nat) (r : flow_Rule) (j : Int), rs[q]? = some r → (r.from_ = j ∨ r.also = j) → 0 ≤ j → j < (n : Int) → (q : Int) ∈ us.getD j.toNat []
  down : ∀ j, sub (gi v j) (gi v0 j)
  best : ∀ w, Keeps b n w → (∀ j, sub (gi w j) (gi v0 j)) → ∀ j, sub (gi w j) (gi v j)
  hold : ∀ r ∈ rs, ((0 ≤ r.from_ ∧ r.from_ < (n : Int)) ∨ (0 ≤ r.also ∧ r.also < (n : Int))) ∨ Holds v r
end Go.Bm.GoYtldkmmnffjdliaa
