/- What a rule makes of sets: the program's answer and the document's. -/
import Derived.Test.YtldkmmnffjdliaaT2b
namespace Go.Bm.GoYtldkmmnffjdliaa
set_option autoImplicit false
set_option linter.unusedVariables false
set_option linter.unusedSimpArgs false
set_option maxRecDepth 100000
theorem awake_ok : alibilaw21_awake = some true := alibilaw21_awake_le 20 _ (by kernel_rfl)
/-- A set by its number. -/
def gi (v : List (BitVec 32)) (i : Int) : BitVec 32 := if 0 ≤ i ∧ i < v.length then v.getD i.toNat 0#32 else 0#32
def rval (r : flow_Rule) (v : List (BitVec 32)) : BitVec 32 :=
  if r.if_ = 0#32 ∨ gi v r.from_ &&& r.if_ ≠ 0#32 then ((gi v r.from_ &&& r.keep) ||| gi v r.also) ||| r.then_ else (gi v r.from_ &&& r.keep) ||| gi v r.also
theorem at_eq (v : List (BitVec 32)) (i : Int) : flow_at v i = some (gi v i) := by
  unfold flow_at gi
  by_cases h1 : i < 0
  · rw [if_pos (decide_eq_true h1), if_neg (by omega)]
  · rw [if_neg (by simpa using h1)]
    by_cases h2 : i < v.length
    · rw [if_neg (by simp only [decide_eq_true_eq]; omega), if_pos (decide_eq_true (by omega)), if_pos (decide_eq_true h2), if_pos (by omega)]
    · rw [if_pos (decide_eq_true (by omega)), if_neg (by omega)]
theorem value_eq (r : flow_Rule) (v : List (BitVec 32)) : flow_Rule_Value r v = some (rval r v) := by
  unfold flow_Rule_Value rval
  rw [at_eq, at_eq]
  simp only [bind, Option.bind_some]
  by_cases h1 : r.if_ = 0#32
  · rw [if_pos (by simpa using h1), if_pos (.inl h1)]
  · rw [if_neg (by simpa using h1)]
    by_cases h2 : gi v r.from_ &&& r.if_ = 0#32
    · rw [if_neg (by simpa using h2), if_neg (by rintro (h | h); exact h1 h; exact h h2)]
    · rw [if_pos (by simpa using h2), if_pos (.inr h2)]
theorem refl3 (t f a : Int) (k i' th : BitVec 32) (v : List (BitVec 32)) (hv : v.length ≤ 65536) : ∀ (n i : Nat) (x y : BitVec 32), i + n = v.length →
    alibiref21_Value_l3 t f a k i' th v x y (i : Int) = some (if (i : Int) ≤ f ∧ f < v.length then v.getD f.toNat 0#32 else x, if (i : Int) ≤ a ∧ a < v.length then v.getD a.toNat 0#32 else y)
  | 0, i, x, y, h => by
    rw [alibiref21_Value_l3, if_neg (by simp only [decide_eq_true_eq]; omega), if_neg (by omega), if_neg (by omega)]
  | n + 1, i, x, y, h => by
    have hi : iAdd (i : Int) 1 = ((i + 1 : Nat) : Int) := by rw [iAdd_eq (by omega) (by omega)]; omega
    rw [alibiref21_Value_l3, if_pos (decide_eq_true (by omega)), hi]
    simp only [refl3 t f a k i' th v hv n (i + 1) _ _ (by omega)]
    have c1 : decide ((0 : Int) ≤ (i : Int)) = true := decide_eq_true (by omega)
    have c2 : decide ((i : Int) < ((v.length : Nat) : Int)) = true := decide_eq_true (by omega)
    by_cases hf : (i : Int) = f
    · subst hf
      rw [if_pos (by simp), if_pos c1, if_pos c2]
      by_cases ha : (i : Int) = a
      · subst ha
        rw [if_pos (by simp)]
        simp; omega
      · rw [if_neg (by simpa using ha)]
        have e1 : ((i : Int) ≤ a ∧ a < v.length) ↔ (((i + 1 : Nat) : Int) ≤ a ∧ a < v.length) := by omega
        simp only [e1]
        simp; omega
    · rw [if_neg (by simpa using hf)]
      have e0 : ((i : Int) ≤ f ∧ f < v.length) ↔ (((i + 1 : Nat) : Int) ≤ f ∧ f < v.length) := by omega
      simp only [e0]
      by_cases ha : (i : Int) = a
      · subst ha
        rw [if_pos (by simp), if_pos c1, if_pos c2]
        simp; omega
      · rw [if_neg (by simpa using ha)]
        have e1 : ((i : Int) ≤ a ∧ a < v.length) ↔ (((i + 1 : Nat) : Int) ≤ a ∧ a < v.length) := by omega
        simp only [e1]
theorem refValue_eq (r : flow_Rule) (v : List (BitVec 32)) (hv : v.length ≤ 65536) : alibiref21_Value r v = some (rval r v) := by
  unfold alibiref21_Value rval
  have h := refl3 r.to_ r.from_ r.also r.keep r.if_ r.then_ v hv v.length 0 0#32 0#32 (by omega)
  rw [show ((0 : Nat) : Int) = 0 from rfl] at h
  rw [h]
  have e1 : ∀ j : Int, (if (0 : Int) ≤ j ∧ j < v.length then v.getD j.toNat 0#32 else 0#32) = gi v j := fun j => rfl
  simp only [bind, Option.bind_some, e1]
  by_cases h1 : r.if_ = 0#32
  · rw [if_pos (by simpa using h1), if_pos (.inl h1)]
  · rw [if_neg (by simpa using h1)]
    by_cases h2 : gi v r.from_ &&& r.if_ = 0#32
    · rw [if_neg (by rw [h2]; decide), if_neg (by rintro (h | h); exact h1 h; exact h h2)]
    · rw [if_pos (by
        refine decide_eq_true ?_
        rw [BitVec.lt_def]
        have : (gi v r.from_ &&& r.if_).toNat ≠ 0 := fun e => h2 (BitVec.eq_of_toNat_eq (by simpa using e))
        simp only [BitVec.toNat_ofNat]
        omega), if_pos (.inr h2)]
theorem of_l3 (l : List flow_Rule) (hl : l.length ≤ 65536) : ∀ (n i : Nat) (x : List flow_Rule), i + n = l.length → x.length = i → alibilaw21_of_l3 x l (i : Int) = some (x ++ l.drop i)
  | 0, i, x, h, hx => by
    rw [alibilaw21_of_l3, if_neg (by simp only [decide_eq_true_eq]; omega), List.drop_eq_nil_of_le (by omega), List.append_nil]
  | n + 1, i, x, h, hx => by
    have hi : iAdd (i : Int) 1 = ((i + 1 : Nat) : Int) := by rw [iAdd_eq (by omega) (by omega)]; omega
    rw [alibilaw21_of_l3, if_pos (decide_eq_true (by omega)), if_pos (decide_eq_true (by omega)), if_pos (decide_eq_true (by omega)), hi]
    rw [if_pos (Nat.ble_eq_true_of_le (by simp only [List.length_singleton, reach]; omega))]
    rw [of_l3 l hl n (i + 1) _ (by omega) (by simp [hx])]
    have e : l.drop i = l.getD i d_flow_Rule :: l.drop (i + 1) := by
      rw [List.drop_eq_getElem_cons (by omega : i < l.length), List.getD_eq_getElem?_getD, List.getElem?_eq_getElem (by omega)]
      rfl
    rw [e]
    simp
theorem of_eq (l : List flow_Rule) (hl : l.length ≤ 65536) : alibilaw21_of l = some l := by
  unfold alibilaw21_of
  have := of_l3 l hl l.length 0 [] (by omega) rfl
  rw [show ((0 : Nat) : Int) = 0 from rfl] at this
  rw [this]
  rfl
theorem flowValues (r : flow_Rule) (v : List (BitVec 32)) : alibilaw21_FlowValues r v = some true := by
  unfold alibilaw21_FlowValues
  rw [awake_ok]
  simp only [bind, Option.bind_some, Bool.not_true, Bool.false_eq_true, if_false]
  by_cases h : ((v.length : Nat) : Int) > 60
  · rw [if_pos (decide_eq_true h)]
  · rw [if_neg (by simpa using h), value_eq, Option.bind_some, of_eq [r] (by simp), Option.bind_some, if_pos (by simp)]
    rw [show List.getD [r] 0 d_flow_Rule = r from rfl, refValue_eq r v (by omega)]
    simp
end Go.Bm.GoYtldkmmnffjdliaa
