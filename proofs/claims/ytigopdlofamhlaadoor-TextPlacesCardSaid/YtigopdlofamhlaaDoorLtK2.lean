/- Programs that may be: the first fault of the nodes is the same. -/
import Derived.Test.YtigopdlofamhlaaDoorLtK1
namespace Go.Bm.GoYtigopdlofamhlaaDoor
set_option autoImplicit false
set_option linter.unusedVariables false
set_option linter.unusedSimpArgs false
set_option maxRecDepth 100000
/-- The first of some numbers for which something is so. -/
def find (q : Nat → Bool) : Nat → Nat → Option Nat
  | _, 0 => none
  | i, m + 1 => if q i = true then some i else find q (i + 1) m
def findO {β : Type} (q : Nat → Option β) : Nat → Nat → Option (Nat × β)
  | _, 0 => none
  | i, m + 1 => match q i with
    | some b => some (i, b)
    | none => findO q (i + 1) m
theorem find_none {q : Nat → Bool} : ∀ {m i : Nat}, find q i m = none → ∀ k, i ≤ k → k < i + m → q k = false
  | 0, i, h, k, h1, h2 => by omega
  | m + 1, i, h, k, h1, h2 => by
    unfold find at h
    split at h
    · cases h
    · rename_i hq
      rcases Nat.eq_or_lt_of_le h1 with rfl | h3
      · simpa using hq
      · exact find_none h k h3 (by omega)
theorem findO_none {β : Type} {q : Nat → Option β} : ∀ {m i : Nat}, findO q i m = none → ∀ k, i ≤ k → k < i + m → q k = none
  | 0, i, h, k, h1, h2 => by omega
  | m + 1, i, h, k, h1, h2 => by
    unfold findO at h
    split at h
    · cases h
    · rename_i hq
      rcases Nat.eq_or_lt_of_le h1 with rfl | h3
      · exact hq
      · exact findO_none h k h3 (by omega)
theorem find_some {q : Nat → Bool} : ∀ {m i k : Nat}, find q i m = some k → i ≤ k ∧ k < i + m ∧ q k = true
  | m + 1, i, k, h => by
    unfold find at h
    split at h
    · cases h; exact ⟨Nat.le_refl _, by omega, by assumption⟩
    · have := find_some h; exact ⟨by omega, by omega, this.2.2⟩
theorem findO_some {β : Type} {q : Nat → Option β} : ∀ {m i : Nat} {k : Nat × β}, findO q i m = some k → i ≤ k.1 ∧ k.1 < i + m ∧ q k.1 = some k.2
  | m + 1, i, k, h => by
    unfold findO at h
    split at h
    · cases h; exact ⟨Nat.le_refl _, by omega, by assumption⟩
    · have := findO_some h; exact ⟨by omega, by omega, this.2.2⟩
theorem find_congr {q q' : Nat → Bool} : ∀ {m i : Nat}, (∀ k, i ≤ k → k < i + m → q k = q' k) → find q i m = find q' i m
  | 0, i, h => rfl
  | m + 1, i, h => by
    unfold find
    rw [h i (Nat.le_refl _) (by omega), find_congr fun k h1 h2 => h k (by omega) (by omega)]
def mayb (p : api_Program) (l : List api_Node) (i : Nat) : Bool := (prog_May p (List.getD l i d_api_Node) (l.length : Int)).getD false
theorem mayb_prog (p : api_Program) (l : List api_Node) (i : Nat) : prog_May p (List.getD l i d_api_Node) (l.length : Int) = some (mayb p l i) := by
  obtain ⟨b, h1, _, _⟩ := may_eq p (List.getD l i d_api_Node) (l.length : Int)
  unfold mayb; rw [h1]; rfl
theorem mayb_ref (p : api_Program) (l : List api_Node) (i : Nat) : alibiref05_May p (List.getD l i d_api_Node) (l.length : Int) = some (mayb p l i) := by
  obtain ⟨b, h1, h2, _⟩ := may_eq p (List.getD l i d_api_Node) (l.length : Int)
  unfold mayb; rw [h1, h2]; rfl
theorem mayb_ok {p : api_Program} {l : List api_Node} {i : Nat} (h : mayb p l i = true) : NodeOk p (List.getD l i d_api_Node) (l.length : Int) := by
  obtain ⟨b, h1, _, h3⟩ := may_eq p (List.getD l i d_api_Node) (l.length : Int)
  unfold mayb at h; rw [h1] at h
  exact h3 h
theorem check_l13 (p : api_Program) (x4 : Int) (x6 : List (List api_Node)) (x7 x8 : Int) (l : List api_Node) (hl : l.length ≤ 65536) : ∀ (m i : Nat), i + m = l.length → prog_Check_l13 p.globals p.locks p.slots p.funcs x4 l x6 x7 x8 l (l.length : Int) (i : Int) =
    some (match find (fun i => !mayb p l i) i m with | some k => .x0 k 3 | none => .x1)
  | 0, i, h => by rw [prog_Check_l13, if_neg (by simp only [decide_eq_true_eq]; omega)]; rfl
  | m + 1, i, h => by
    rw [prog_Check_l13, if_pos (decide_eq_true (by omega)), if_pos (decide_eq_true (by omega)), if_pos (decide_eq_true (by omega)), Int.toNat_natCast, bind_some (mayb_prog p l i), inc i (by omega)]
    unfold find
    cases hb : mayb p l i with
    | false => rfl
    | true => exact check_l13 p x4 x6 x7 x8 l hl m (i + 1) (by omega)
theorem check_l14 (p : api_Program) (x4 : Int) (f : Nat) (hf : f < p.funcs.length) (hl : (List.getD p.funcs f []).length ≤ 65536) : ∀ (m i : Nat), i + m = (List.getD p.funcs f []).length → alibiref05_Check_l14 p.globals p.locks p.slots p.funcs x4 (f : Int) (i : Int) =
    some (match find (fun i => !mayb p (List.getD p.funcs f []) i) i m with | some k => .x0 k 3 | none => .x1)
  | 0, i, h => by
    rw [alibiref05_Check_l14, if_pos (decide_eq_true (by omega)), if_pos (decide_eq_true (by omega)), Int.toNat_natCast, if_neg (by simp only [decide_eq_true_eq]; omega)]
    rfl
  | m + 1, i, h => by
    rw [alibiref05_Check_l14, if_pos (decide_eq_true (by omega)), if_pos (decide_eq_true (by omega)), Int.toNat_natCast, if_pos (decide_eq_true (by omega)), if_pos (decide_eq_true (by omega)), if_pos (decide_eq_true (by omega)), Int.toNat_natCast, bind_some (mayb_ref p (List.getD p.funcs f []) i), inc i (by omega)]
    unfold find
    cases hb : mayb p (List.getD p.funcs f []) i with
    | false => rfl
    | true => exact check_l14 p x4 f hf hl m (i + 1) (by omega)
/-- What is wrong with a function's nodes first. -/
def bad1 (p : api_Program) (f : Nat) : Option (Int × Int) :=
  if (List.getD p.funcs f []).length = 0 then some (-1, 1) else if (List.getD p.funcs f []).length > 64 then some (-1, 4) else (find (fun i => !mayb p (List.getD p.funcs f []) i) 0 (List.getD p.funcs f []).length).map fun k => ((k : Int), 3)
theorem check_l6 (p : api_Program) (hn : p.funcs.length ≤ 65536) : ∀ (m i : Nat), i + m = p.funcs.length → prog_Check_l6 p.globals p.locks p.slots p.funcs p.funcs (p.funcs.length : Int) (i : Int) =
    some (match findO (bad1 p) i m with | some (f, a, b) => .x0 f a b | none => .x1)
  | 0, i, h => by rw [prog_Check_l6, if_neg (by simp only [decide_eq_true_eq]; omega)]; rfl
  | m + 1, i, h => by
    rw [prog_Check_l6, if_pos (decide_eq_true (by omega)), if_pos (decide_eq_true (by omega)), if_pos (decide_eq_true (by omega)), Int.toNat_natCast, inc i (by omega)]
    unfold findO
    have ih := check_l6 p hn m (i + 1) (by omega)
    rcases Nat.eq_zero_or_pos (List.getD p.funcs i []).length with h0 | h0
    · rw [if_pos (eqT (by omega)), show bad1 p i = some (-1, 1) from if_pos h0]
    · rw [if_neg (eqF (by omega))]
      by_cases h1 : (List.getD p.funcs i []).length > 64
      · rw [if_pos (decide_eq_true (by omega)), show bad1 p i = some (-1, 4) by unfold bad1; rw [if_neg (by omega), if_pos h1]]
      · rw [if_neg (by simp only [decide_eq_true_eq]; omega)]
        have h2 := check_l13 p (i : Int) p.funcs (p.funcs.length : Int) (i : Int) (List.getD p.funcs i []) (by omega) (List.getD p.funcs i []).length 0 (by omega)
        rw [show ((0 : Nat) : Int) = 0 from rfl] at h2
        rw [bind_some h2, show bad1 p i = (find (fun k => !mayb p (List.getD p.funcs i []) k) 0 (List.getD p.funcs i []).length).map fun k => ((k : Int), 3) by unfold bad1; rw [if_neg (by omega), if_neg h1]]
        cases find (fun k => !mayb p (List.getD p.funcs i []) k) 0 (List.getD p.funcs i []).length with
        | some k => rfl
        | none => exact ih
theorem check_l7 (p : api_Program) (hn : p.funcs.length ≤ 65536) : ∀ (m i : Nat), i + m = p.funcs.length → alibiref05_Check_l7 p.globals p.locks p.slots p.funcs (p.funcs.length : Int) (i : Int) =
    some (match findO (bad1 p) i m with | some (f, a, b) => .x0 f a b | none => .x1)
  | 0, i, h => by rw [alibiref05_Check_l7, if_neg (by simp only [decide_eq_true_eq]; omega)]; rfl
  | m + 1, i, h => by
    rw [alibiref05_Check_l7, if_pos (decide_eq_true (by omega)), if_pos (decide_eq_true (by omega)), if_pos (decide_eq_true (by omega)), Int.toNat_natCast, inc i (by omega)]
    unfold findO
    have ih := check_l7 p hn m (i + 1) (by omega)
    rcases Nat.eq_zero_or_pos (List.getD p.funcs i []).length with h0 | h0
    · rw [if_pos (eqT (by omega)), show bad1 p i = some (-1, 1) from if_pos h0]
    · rw [if_neg (eqF (by omega))]
      by_cases h1 : (List.getD p.funcs i []).length > 64
      · rw [if_pos (decide_eq_true (by omega)), show bad1 p i = some (-1, 4) by unfold bad1; rw [if_neg (by omega), if_pos h1]]
      · rw [if_neg (by simp only [decide_eq_true_eq]; omega)]
        have h2 := check_l14 p (p.funcs.length : Int) i (by omega) (by omega) (List.getD p.funcs i []).length 0 (by omega)
        rw [show ((0 : Nat) : Int) = 0 from rfl] at h2
        rw [bind_some h2, show bad1 p i = (find (fun k => !mayb p (List.getD p.funcs i []) k) 0 (List.getD p.funcs i []).length).map fun k => ((k : Int), 3) by unfold bad1; rw [if_neg (by omega), if_neg h1]]
        cases find (fun k => !mayb p (List.getD p.funcs i []) k) 0 (List.getD p.funcs i []).length with
        | some k => rfl
        | none => exact ih
end Go.Bm.GoYtigopdlofamhlaaDoor
