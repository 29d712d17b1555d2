/- Numbers of a line, and what they fill: the program and the document. -/
import Derived.Test.YtigopdlofamhlaaDoorLtB
namespace Go.Bm.GoYtigopdlofamhlaaDoor
open Go.Proofs
set_option autoImplicit false
set_option linter.unusedVariables false
set_option linter.unusedSimpArgs false
abbrev Wd := List UInt8
/-- The node that a line tells, after its kind's name. -/
def nodeO (k : Nat) (ws : List Wd) : Option api_Node :=
  if k = 9 then (match ws with | [] => some ⟨9, 0, 0, 0⟩ | _ => none)
  else if k = 0 then (match ws with | [a] => (numO a).map fun (x : Nat) => (⟨0, 0, (x : Int), 0⟩ : api_Node) | _ => none)
  else if k = 5 then (match ws with | [a, b, c] => (numO a).bind fun (x : Nat) => (numO b).bind fun (y : Nat) => (numO c).map fun (z : Nat) => (⟨5, (x : Int), (z : Int), (y : Int)⟩ : api_Node) | _ => none)
  else if k = 8 then (match ws with | [a, b] => (numO a).bind fun (x : Nat) => (numO b).map fun (y : Nat) => (⟨8, 0, (x : Int), (y : Int)⟩ : api_Node) | _ => none)
  else (match ws with | [a, b] => (numO a).bind fun (x : Nat) => (numO b).map fun (y : Nat) => (⟨(k : Int), (x : Int), (y : Int), 0⟩ : api_Node) | _ => none)
theorem nodeO_k (k : Nat) (ws : List Wd) (h9 : k ≠ 9) (h0 : k ≠ 0) (h5 : k ≠ 5) (h8 : k ≠ 8) : nodeO k ws = match ws with | [a, b] => (numO a).bind fun (x : Nat) => (numO b).map fun (y : Nat) => (⟨(k : Int), (x : Int), (y : Int), 0⟩ : api_Node) | _ => none := by
  unfold nodeO
  rw [if_neg h9, if_neg h0, if_neg h5, if_neg h8]
theorem number_bl (l : Wd) : text_number (bl l) = some (numV (numO l)) := by
  unfold text_number
  rw [numM_eq]
theorem addN_eq (b : Nat) : addN 1 b = 1 + b := rfl
theorem word_at (w : Wd) (ws : List Wd) (i : Nat) : List.getD ((w :: ws).map bl) (addN 1 i) ByteArray.empty = bl (ws.getD i []) := by
  rw [addN_eq, Nat.add_comm 1 i, List.map_cons]
  show List.getD (bl w :: List.map bl ws) (i + 1) ByteArray.empty = _
  simp only [List.getD, List.getElem?_cons_succ, List.getElem?_map]
  cases ws[i]? <;> rfl
theorem lenW (w : Wd) (ws : List Wd) : List.length ((w :: ws).map bl) - 1 = ws.length := by simp
theorem fill_1 (w : Wd) (ws : List Wd) : (text_fill_1 ((w :: ws).map bl) 1 (List.length ((w :: ws).map bl) - 1) = some false ∧ nodeO 9 ws = none) ∨ (text_fill_1 ((w :: ws).map bl) 1 (List.length ((w :: ws).map bl) - 1) = some true ∧ nodeO 9 ws = some ⟨9, 0, 0, 0⟩) := by
  rw [lenW]
  unfold text_fill_1
  match ws with
  | [] =>
    right
    exact ⟨rfl, rfl⟩
  | a :: r =>
    left
    rw [if_pos (by simp; omega)]
    exact ⟨rfl, rfl⟩
theorem fill_2 (w : Wd) (ws : List Wd) (b1 b11 b12 b13 : Int) : (∃ j, text_fill_2 ((w :: ws).map bl) b1 b11 b12 b13 1 (List.length ((w :: ws).map bl) - 1) = some (false, j) ∧ nodeO 0 ws = none) ∨ (∃ x, text_fill_2 ((w :: ws).map bl) b1 b11 b12 b13 1 (List.length ((w :: ws).map bl) - 1) = some (true, x) ∧ nodeO 0 ws = some ⟨0, 0, x, 0⟩) := by
  rw [lenW]
  unfold text_fill_2 text_fill_2_l4 text_fill_2_l4_1
  match ws with
  | [] => exact .inl ⟨_, rfl, rfl⟩
  | a :: b :: r =>
    left
    rw [if_pos (by simp; omega)]
    exact ⟨_, rfl, rfl⟩
  | [a] =>
    rw [if_neg (by simp), if_pos (by simp), word_at, bind_some (number_bl _)]
    have e0 : ([a] : List Wd).getD 0 [] = a := rfl
    have e : nodeO 0 [a] = (numO a).map fun (x : Nat) => (⟨0, 0, (x : Int), 0⟩ : api_Node) := rfl
    rw [e0, e]
    cases numO a with
    | none => exact .inl ⟨_, rfl, rfl⟩
    | some x => exact .inr ⟨_, rfl, rfl⟩
theorem fill_4 (w : Wd) (ws : List Wd) (b1 b11 b12 b13 : Int) : (∃ j, text_fill_4 ((w :: ws).map bl) b1 b11 b12 b13 1 (List.length ((w :: ws).map bl) - 1) = some (false, j) ∧ nodeO 8 ws = none) ∨ (∃ x y, text_fill_4 ((w :: ws).map bl) b1 b11 b12 b13 1 (List.length ((w :: ws).map bl) - 1) = some (true, x, y) ∧ nodeO 8 ws = some ⟨8, 0, x, y⟩) := by
  rw [lenW]
  unfold text_fill_4 text_fill_4_l4 text_fill_4_l4_1 text_fill_4_l4_2
  match ws with
  | [] => exact .inl ⟨_, rfl, rfl⟩
  | [a] => exact .inl ⟨_, rfl, rfl⟩
  | a :: b :: c :: r =>
    left
    rw [if_pos (by simp; omega)]
    exact ⟨_, rfl, rfl⟩
  | [a, b] =>
    rw [if_neg (by simp), if_pos (by simp), word_at, word_at, bind_some (number_bl _), bind_some (number_bl _)]
    have e0 : ([a, b] : List Wd).getD 0 [] = a := rfl
    have e1 : ([a, b] : List Wd).getD 1 [] = b := rfl
    have e : nodeO 8 [a, b] = (numO a).bind fun (x : Nat) => (numO b).map fun (y : Nat) => (⟨8, 0, (x : Int), (y : Int)⟩ : api_Node) := rfl
    rw [e0, e1, e]
    cases numO a with
    | none => exact .inl ⟨_, rfl, rfl⟩
    | some x =>
      cases numO b with
      | none => exact .inl ⟨_, rfl, rfl⟩
      | some y => exact .inr ⟨_, _, rfl, rfl⟩
theorem fill_5 (w : Wd) (ws : List Wd) (b1 b11 b12 b13 : Int) (k : Nat) (h9 : k ≠ 9) (h0 : k ≠ 0) (h5 : k ≠ 5) (h8 : k ≠ 8) : (∃ j, text_fill_5 ((w :: ws).map bl) b1 b11 b12 b13 1 (List.length ((w :: ws).map bl) - 1) = some (false, j) ∧ nodeO k ws = none) ∨ (∃ x y, text_fill_5 ((w :: ws).map bl) b1 b11 b12 b13 1 (List.length ((w :: ws).map bl) - 1) = some (true, x, y) ∧ nodeO k ws = some ⟨k, x, y, 0⟩) := by
  rw [lenW]
  rw [nodeO_k k ws h9 h0 h5 h8]
  unfold text_fill_5 text_fill_5_l4 text_fill_5_l4_1 text_fill_5_l4_2
  match ws with
  | [] => exact .inl ⟨_, rfl, rfl⟩
  | [a] => exact .inl ⟨_, rfl, rfl⟩
  | a :: b :: c :: r =>
    left
    rw [if_pos (by simp; omega)]
    exact ⟨_, rfl, rfl⟩
  | [a, b] =>
    rw [if_neg (by simp), if_pos (by simp), word_at, word_at, bind_some (number_bl _), bind_some (number_bl _)]
    have e0 : ([a, b] : List Wd).getD 0 [] = a := rfl
    have e1 : ([a, b] : List Wd).getD 1 [] = b := rfl
    rw [e0, e1]
    dsimp only
    cases numO a with
    | none => exact .inl ⟨_, rfl, rfl⟩
    | some x =>
      cases numO b with
      | none => exact .inl ⟨_, rfl, rfl⟩
      | some y => exact .inr ⟨_, _, rfl, rfl⟩
theorem fill_3 (w : Wd) (ws : List Wd) (b1 b11 b12 b13 : Int) : (∃ j, text_fill_3 ((w :: ws).map bl) b1 b11 b12 b13 1 (List.length ((w :: ws).map bl) - 1) = some (false, j) ∧ nodeO 5 ws = none) ∨ (∃ x y z, text_fill_3 ((w :: ws).map bl) b1 b11 b12 b13 1 (List.length ((w :: ws).map bl) - 1) = some (true, x, y, z) ∧ nodeO 5 ws = some ⟨5, x, y, z⟩) := by
  rw [lenW]
  unfold text_fill_3 text_fill_3_l4 text_fill_3_l4_1 text_fill_3_l4_2 text_fill_3_l4_3
  match ws with
  | [] => exact .inl ⟨_, rfl, rfl⟩
  | [a] => exact .inl ⟨_, rfl, rfl⟩
  | [a, b] => exact .inl ⟨_, rfl, rfl⟩
  | a :: b :: c :: d :: r =>
    left
    rw [if_pos (by simp; omega)]
    exact ⟨_, rfl, rfl⟩
  | [a, b, c] =>
    rw [if_neg (by simp), if_pos (by simp), word_at, word_at, word_at, bind_some (number_bl _), bind_some (number_bl _), bind_some (number_bl _)]
    have e0 : ([a, b, c] : List Wd).getD 0 [] = a := rfl
    have e1 : ([a, b, c] : List Wd).getD 1 [] = b := rfl
    have e2 : ([a, b, c] : List Wd).getD 2 [] = c := rfl
    have e : nodeO 5 [a, b, c] = (numO a).bind fun (x : Nat) => (numO b).bind fun (y : Nat) => (numO c).map fun (z : Nat) => (⟨5, (x : Int), (z : Int), (y : Int)⟩ : api_Node) := rfl
    rw [e0, e1, e2, e]
    cases numO a with
    | none => exact .inl ⟨_, rfl, rfl⟩
    | some x =>
      cases numO b with
      | none => exact .inl ⟨_, rfl, rfl⟩
      | some y =>
        cases numO c with
        | none => exact .inl ⟨_, rfl, rfl⟩
        | some z => exact .inr ⟨_, _, _, rfl, rfl⟩
/-- The three numbers of a first line. -/
def headO (ws : List Wd) : Option (Nat × Nat × Nat) := match ws with
  | [a, b, c] => (numO a).bind fun x => (numO b).bind fun y => (numO c).map fun z => (x, y, z)
  | _ => none
theorem fill_0 (w : Wd) (ws : List Wd) (fs : List (List api_Node)) (b1 b11 b12 : Int) : (∃ j, text_fill fs ((w :: ws).map bl) b1 b11 b12 true 1 (List.length ((w :: ws).map bl) - 1) = some (false, j) ∧ headO ws = none) ∨ (∃ x y z : Nat, text_fill fs ((w :: ws).map bl) b1 b11 b12 true 1 (List.length ((w :: ws).map bl) - 1) = some (true, (x : Int), (y : Int), (z : Int)) ∧ headO ws = some (x, y, z)) := by
  rw [lenW]
  unfold text_fill text_fill_l4 text_fill_l4_1 text_fill_l4_2 text_fill_l4_3
  match ws with
  | [] => exact .inl ⟨_, rfl, rfl⟩
  | [a] => exact .inl ⟨_, rfl, rfl⟩
  | [a, b] => exact .inl ⟨_, rfl, rfl⟩
  | a :: b :: c :: d :: r =>
    left
    rw [if_pos (by simp; omega)]
    exact ⟨_, rfl, rfl⟩
  | [a, b, c] =>
    rw [if_neg (by simp), if_pos (by simp), word_at, word_at, word_at, bind_some (number_bl _), bind_some (number_bl _), bind_some (number_bl _)]
    have e0 : ([a, b, c] : List Wd).getD 0 [] = a := rfl
    have e1 : ([a, b, c] : List Wd).getD 1 [] = b := rfl
    have e2 : ([a, b, c] : List Wd).getD 2 [] = c := rfl
    have e : headO [a, b, c] = (numO a).bind fun x => (numO b).bind fun y => (numO c).map fun z => (x, y, z) := rfl
    rw [e0, e1, e2, e]
    cases numO a with
    | none => exact .inl ⟨_, rfl, rfl⟩
    | some x =>
      cases numO b with
      | none => exact .inl ⟨_, rfl, rfl⟩
      | some y =>
        cases numO c with
        | none => exact .inl ⟨_, rfl, rfl⟩
        | some z => exact .inr ⟨_, _, _, rfl, rfl⟩
/-! the document's numbers -/
def numsO : List Wd → Option (List Int)
  | [] => some []
  | w :: r => match numO w with
    | none => none
    | some m => match numsO r with
      | none => none
      | some l => some ((m : Int) :: l)
theorem nums_l5 (ws : List Wd) (hs : ∀ w, w ∈ ws → w.length ≤ 66000) (hl : ws.length ≤ 100000) : ∀ (r pre : List Wd) (acc : List Int), ws = pre ++ r → acc.length = pre.length →
    ∃ q, alibiref08_numbers_l5 acc (ws.map bl) (ws.length : Int) (pre.length : Int) = some q ∧ ((numsO r = none ∧ ∃ J, q = .x0 J 0) ∨ (∃ l, numsO r = some l ∧ q = .x1 (acc ++ l)))
  | [], pre, acc, h1, h2 => by
    refine ⟨_, ?_, .inr ⟨[], rfl, by rw [List.append_nil]⟩⟩
    rw [alibiref08_numbers_l5, if_neg (by rw [h1]; simp)]
  | w :: r, pre, acc, h1, h2 => by
    have hlen : ws.length = pre.length + r.length + 1 := by rw [h1]; simp; omega
    have hw : List.getD (ws.map bl) pre.length ByteArray.empty = bl w := by
      rw [h1]
      simp [List.getD]
    rw [alibiref08_numbers_l5, if_pos (decide_eq_true (by omega)), if_pos (decide_eq_true (by omega)), if_pos (decide_eq_true (by rw [List.length_map]; omega)), Int.toNat_natCast, hw, bind_some (number_eq w (hs w (by rw [h1]; simp)))]
    cases hn : numO w with
    | none =>
      rw [if_pos (by rfl)]
      refine ⟨_, rfl, .inl ⟨?_, _, rfl⟩⟩
      unfold numsO
      rw [hn]
    | some m =>
      rw [if_neg (by show ¬ decide ((m : Int) < 0) = true; rw [decide_eq_true_eq]; omega), if_pos (by
        apply Nat.ble_eq_true_of_le
        have : reach = 140737488351232 := rfl
        simp
        omega), inc _ (by omega)]
      obtain ⟨q, e1, e2⟩ := nums_l5 ws hs hl r (pre ++ [w]) (acc ++ [(m : Int)]) (by rw [h1]; simp) (by simp [h2])
      refine ⟨q, ?_, ?_⟩
      · rw [← e1]
        congr 1
        simp
      · unfold numsO
        rw [hn]
        rcases e2 with ⟨h, J, rfl⟩ | ⟨l, h, rfl⟩
        · rw [h]
          exact .inl ⟨rfl, J, rfl⟩
        · rw [h]
          exact .inr ⟨_, rfl, by simp⟩
theorem nums_eq (ws : List Wd) (hs : ∀ w, w ∈ ws → w.length ≤ 66000) (hl : ws.length ≤ 100000) (n : Nat) : (∃ J, alibiref08_numbers (ws.map bl) (n : Int) = some (0, J) ∧ (ws.length ≠ n ∨ numsO ws = none)) ∨ (∃ l, alibiref08_numbers (ws.map bl) (n : Int) = some (1, l) ∧ ws.length = n ∧ numsO ws = some l) := by
  unfold alibiref08_numbers
  by_cases h : ws.length = n
  · rw [if_neg (by simp [h])]
    obtain ⟨q, e1, e2⟩ := nums_l5 ws hs hl ws [] [] rfl rfl
    have e1' : alibiref08_numbers_l5 [] (ws.map bl) (n : Int) 0 = some q := by rw [← h]; exact e1
    rw [bind_some e1']
    rcases e2 with ⟨h2, J, rfl⟩ | ⟨l, h2, rfl⟩
    · exact .inl ⟨_, rfl, .inr h2⟩
    · exact .inr ⟨_, rfl, h, h2⟩
  · rw [if_pos (by simp; omega)]
    exact .inl ⟨_, rfl, .inl h⟩
end Go.Bm.GoYtigopdlofamhlaaDoor
