/- Sets as bits: two orders, and rules that respect both. -/
import Derived.Test.YtldkmmnffjdliaaLawFlow1
import Derived.Test.YtldkmmnffjdliaaLawFlow2
namespace Go.Bm.GoYtldkmmnffjdliaa
set_option autoImplicit false
set_option linter.unusedVariables false
set_option linter.unusedSimpArgs false

abbrev W32 := BitVec 32
/-- a is within b. -/
def sub (a b : W32) : Prop := ∀ i, a.getLsbD i = true → b.getLsbD i = true
theorem sub.refl (a : W32) : sub a a := fun _ h => h
theorem sub.trans {a b c : W32} (h : sub a b) (k : sub b c) : sub a c := fun i hi => k i (h i hi)
theorem sub.antisymm {a b : W32} (h : sub a b) (k : sub b a) : a = b := by
  apply BitVec.eq_of_getLsbD_eq
  intro i hi
  rw [Bool.eq_iff_iff]
  exact ⟨h i, k i⟩
theorem and_sub_l (a b : W32) : sub (a &&& b) a := fun i h => by simp at h; exact h.1
theorem and_sub_r (a b : W32) : sub (a &&& b) b := fun i h => by simp at h; exact h.2
theorem sub_and {a b c : W32} (h : sub c a) (k : sub c b) : sub c (a &&& b) := fun i hi => by simp [h i hi, k i hi]
theorem sub_or_l (a b : W32) : sub a (a ||| b) := fun i h => by simp [h]
theorem sub_or_r (a b : W32) : sub b (a ||| b) := fun i h => by simp [h]
theorem or_sub {a b c : W32} (h : sub a c) (k : sub b c) : sub (a ||| b) c := fun i hi => by
  simp at hi
  exact hi.elim (h i) (k i)
theorem sub_iff (a b : W32) : sub a b ↔ a &&& ~~~b = 0#32 := by
  constructor
  · intro h
    apply BitVec.eq_of_getLsbD_eq
    intro i hi
    cases ha : a.getLsbD i with
    | false => simp [ha]
    | true => simp [ha, h i ha]
  · intro h i hi
    have := congrArg (fun x => x.getLsbD i) h
    have hlt : i < 32 := by
      rcases Nat.lt_or_ge i 32 with h | h
      · exact h
      · rw [BitVec.getLsbD_of_ge _ _ h] at hi; cases hi
    simp [hi, hlt] at this
    exact this
theorem zero_sub (a : W32) : sub 0#32 a := fun i h => by simp at h
theorem ne_zero {a : W32} : a ≠ 0#32 ↔ ∃ i, a.getLsbD i = true := by
  constructor
  · intro h
    apply Classical.byContradiction
    intro hn
    apply h
    apply BitVec.eq_of_getLsbD_eq
    intro i hi
    cases ha : a.getLsbD i with
    | false => simp
    | true => exact absurd ⟨i, ha⟩ hn
  · rintro ⟨i, hi⟩ rfl
    simp at hi
/-- What rules make goes with what they are told. -/
theorem rval_mono (r : flow_Rule) {v w : List W32} (h : ∀ j : Int, sub (gi v j) (gi w j)) : sub (rval r v) (rval r w) := by
  unfold rval
  have h1 : sub (gi v r.from_ &&& r.keep ||| gi v r.also) (gi w r.from_ &&& r.keep ||| gi w r.also) :=
    or_sub (sub.trans (sub_and (sub.trans (and_sub_l _ _) (h _)) (and_sub_r _ _)) (sub_or_l _ _)) (sub.trans (h _) (sub_or_r _ _))
  by_cases hv : r.if_ = 0#32 ∨ gi v r.from_ &&& r.if_ ≠ 0#32
  · have hw : r.if_ = 0#32 ∨ gi w r.from_ &&& r.if_ ≠ 0#32 := by
      rcases hv with hv | hv
      · exact .inl hv
      · obtain ⟨i, hi⟩ := ne_zero.1 hv
        refine .inr (ne_zero.2 ⟨i, ?_⟩)
        simp at hi ⊢
        exact ⟨h _ i hi.1, hi.2⟩
    rw [if_pos hv, if_pos hw]
    exact or_sub (sub.trans h1 (sub_or_l _ _)) (sub_or_r _ _)
  · rw [if_neg hv]
    split
    · exact sub.trans h1 (sub_or_l _ _)
    · exact h1
end Go.Bm.GoYtldkmmnffjdliaa
