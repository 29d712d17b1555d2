/- A node's line, as the document reads it. -/
import Derived.Test.YtigopdlofamhlaaDoorLtC
namespace Go.Bm.GoYtigopdlofamhlaaDoor
open Go.Proofs
set_option autoImplicit false
set_option linter.unusedVariables false
set_option linter.unusedSimpArgs false
section
variable {x0 x1 x2 : List (List api_Node)} {x3 x4 : List ByteArray} {x6 x7 x8 x9 x10 x11 x12 x13 x14 x15 x20 x21 : Int} {x19 : Bool}
theorem i01 : iAdd 0 1 = 1 := rfl
theorem i12 : iAdd 1 1 = 2 := rfl
theorem i23 : iAdd 2 1 = 3 := rfl
theorem l33_none : alibiref08_Parse_l33 x0 x1 x2 x3 x4 [] x6 x7 x8 x9 x10 x11 x12 x13 x14 x15 0 0 0 x19 x20 x21 (ByteArray.mk #[]) 0 = some (0, 0, 0) := by
  rw [alibiref08_Parse_l33, if_neg (by decide)]
theorem l33_n (a : Int) : alibiref08_Parse_l33 x0 x1 x2 x3 x4 [a] x6 x7 x8 x9 x10 x11 x12 x13 x14 x15 0 0 0 x19 x20 x21 (ByteArray.mk #[110]) 0 = some (0, a, 0) := by
  rw [alibiref08_Parse_l33, if_pos (by decide), if_pos (by decide), if_pos (by decide), if_neg (by decide), if_pos (by decide), if_pos (by simp), i01]
  rw [alibiref08_Parse_l33, if_neg (by decide)]
  rfl
theorem l33_an (a b : Int) : alibiref08_Parse_l33 x0 x1 x2 x3 x4 [a, b] x6 x7 x8 x9 x10 x11 x12 x13 x14 x15 0 0 0 x19 x20 x21 (ByteArray.mk #[97, 110]) 0 = some (a, b, 0) := by
  rw [alibiref08_Parse_l33, if_pos (by decide), if_pos (by decide), if_pos (by decide), if_pos (by decide), if_pos (by simp), i01]
  rw [alibiref08_Parse_l33, if_pos (by decide), if_pos (by decide), if_pos (by decide), if_neg (by decide), if_pos (by decide), if_pos (by simp), i12]
  rw [alibiref08_Parse_l33, if_neg (by decide)]
  rfl
theorem l33_nx (a b : Int) : alibiref08_Parse_l33 x0 x1 x2 x3 x4 [a, b] x6 x7 x8 x9 x10 x11 x12 x13 x14 x15 0 0 0 x19 x20 x21 (ByteArray.mk #[110, 120]) 0 = some (0, a, b) := by
  rw [alibiref08_Parse_l33, if_pos (by decide), if_pos (by decide), if_pos (by decide), if_neg (by decide), if_pos (by decide), if_pos (by simp), i01]
  rw [alibiref08_Parse_l33, if_pos (by decide), if_pos (by decide), if_pos (by decide), if_neg (by decide), if_neg (by decide), if_pos (by simp), i12]
  rw [alibiref08_Parse_l33, if_neg (by decide)]
  rfl
theorem l33_axn (a b c : Int) : alibiref08_Parse_l33 x0 x1 x2 x3 x4 [a, b, c] x6 x7 x8 x9 x10 x11 x12 x13 x14 x15 0 0 0 x19 x20 x21 (ByteArray.mk #[97, 120, 110]) 0 = some (a, c, b) := by
  rw [alibiref08_Parse_l33, if_pos (by decide), if_pos (by decide), if_pos (by decide), if_pos (by decide), if_pos (by simp), i01]
  rw [alibiref08_Parse_l33, if_pos (by decide), if_pos (by decide), if_pos (by decide), if_neg (by decide), if_neg (by decide), if_pos (by simp), i12]
  rw [alibiref08_Parse_l33, if_pos (by decide), if_pos (by decide), if_pos (by decide), if_neg (by decide), if_pos (by decide), if_pos (by simp), i23]
  rw [alibiref08_Parse_l33, if_neg (by decide)]
  rfl
end
theorem nums1 {ws : List Wd} : (ws.length ≠ 1 ∨ numsO ws = none) → nodeO 0 ws = none := by
  intro h
  match ws with
  | [] => rfl
  | a :: b :: r => rfl
  | [a] =>
    have e : nodeO 0 [a] = (numO a).map fun (x : Nat) => (⟨0, 0, (x : Int), 0⟩ : api_Node) := rfl
    rcases h with h | h
    · exact absurd rfl h
    · rw [e]
      unfold numsO numsO at h
      cases ha : numO a with
      | none => rfl
      | some x => rw [ha] at h; cases h
theorem nums1' {ws : List Wd} {l : List Int} (h1 : ws.length = 1) (h : numsO ws = some l) : ∃ x : Nat, l = [(x : Int)] ∧ nodeO 0 ws = some ⟨0, 0, x, 0⟩ := by
  match ws, h1 with
  | [a], _ =>
    have e : nodeO 0 [a] = (numO a).map fun (x : Nat) => (⟨0, 0, (x : Int), 0⟩ : api_Node) := rfl
    rw [e]
    unfold numsO numsO at h
    cases ha : numO a with
    | none => rw [ha] at h; cases h
    | some x => rw [ha] at h; cases h; exact ⟨x, rfl, rfl⟩
theorem nums2n {a b : Wd} : numsO [a, b] = none → ∀ {A : Type} (f : Nat → Nat → A), ((numO a).bind fun x => (numO b).map fun y => f x y) = none := by
  intro h A f
  unfold numsO numsO numsO at h
  cases ha : numO a with
  | none => rfl
  | some x =>
    cases hb : numO b with
    | none => rfl
    | some y => rw [ha, hb] at h; cases h
theorem nums2s {a b : Wd} {l : List Int} : numsO [a, b] = some l → ∃ x y : Nat, l = [(x : Int), (y : Int)] ∧ numO a = some x ∧ numO b = some y := by
  intro h
  unfold numsO numsO numsO at h
  cases ha : numO a with
  | none => rw [ha] at h; cases h
  | some x =>
    cases hb : numO b with
    | none => rw [ha, hb] at h; cases h
    | some y => rw [ha, hb] at h; cases h; exact ⟨x, y, rfl, rfl, rfl⟩
theorem nums3n {a b c : Wd} : numsO [a, b, c] = none → ∀ {A : Type} (f : Nat → Nat → Nat → A), ((numO a).bind fun x => (numO b).bind fun y => (numO c).map fun z => f x y z) = none := by
  intro h A f
  unfold numsO numsO numsO numsO at h
  cases ha : numO a with
  | none => rfl
  | some x =>
    cases hb : numO b with
    | none => rfl
    | some y =>
      cases hc : numO c with
      | none => rfl
      | some z => rw [ha, hb, hc] at h; cases h
theorem nums3s {a b c : Wd} {l : List Int} : numsO [a, b, c] = some l → ∃ x y z : Nat, l = [(x : Int), (y : Int), (z : Int)] ∧ numO a = some x ∧ numO b = some y ∧ numO c = some z := by
  intro h
  unfold numsO numsO numsO numsO at h
  cases ha : numO a with
  | none => rw [ha] at h; cases h
  | some x =>
    cases hb : numO b with
    | none => rw [ha, hb] at h; cases h
    | some y =>
      cases hc : numO c with
      | none => rw [ha, hb, hc] at h; cases h
      | some z => rw [ha, hb, hc] at h; cases h; exact ⟨x, y, z, rfl, rfl, rfl, rfl⟩
def DocNode (k : Nat) (ws : List Wd) : Prop := ∃ t, alibiref08_told (k : Int) = some t ∧ ((∃ J, alibiref08_numbers (ws.map bl) ((ByteArray.size t : Nat) : Int) = some (0, J) ∧ nodeO k ws = none) ∨ (∃ l n, alibiref08_numbers (ws.map bl) ((ByteArray.size t : Nat) : Int) = some (1, l) ∧ nodeO k ws = some n ∧ n.kind = (k : Int) ∧
  ∀ (x0 x1 x2 : List (List api_Node)) (x3 x4 : List ByteArray) (x6 x7 x8 x9 x10 x11 x12 x13 x14 x15 x20 x21 : Int) (x19 : Bool), alibiref08_Parse_l33 x0 x1 x2 x3 x4 l x6 x7 x8 x9 x10 x11 x12 x13 x14 x15 0 0 0 x19 x20 x21 t 0 = some (n.arg, n.next, n.alt)))
section
variable (ws : List Wd) (hs : ∀ w, w ∈ ws → w.length ≤ 66000) (hl : ws.length ≤ 100000)
include hs hl
theorem doc9 : DocNode 9 ws := by
  refine ⟨_, rfl, ?_⟩
  rcases nums_eq ws hs hl 0 with ⟨J, e, h⟩ | ⟨l, e, h1, h2⟩
  · refine .inl ⟨J, e, ?_⟩
    match ws with
    | [] =>
      rcases h with h | h
      · exact absurd rfl h
      · cases h
    | a :: r => rfl
  · match ws, h1 with
    | [], _ =>
      cases h2
      exact .inr ⟨[], ⟨9, 0, 0, 0⟩, e, rfl, rfl, fun x0 x1 x2 x3 x4 x6 x7 x8 x9 x10 x11 x12 x13 x14 x15 x20 x21 x19 => l33_none⟩
theorem doc0 : DocNode 0 ws := by
  refine ⟨_, rfl, ?_⟩
  rcases nums_eq ws hs hl 1 with ⟨J, e, h⟩ | ⟨l, e, h1, h2⟩
  · exact .inl ⟨J, e, nums1 h⟩
  · obtain ⟨x, rfl, h3⟩ := nums1' h1 h2
    exact .inr ⟨_, _, e, h3, rfl, fun x0 x1 x2 x3 x4 x6 x7 x8 x9 x10 x11 x12 x13 x14 x15 x20 x21 x19 => l33_n _⟩
theorem doc8 : DocNode 8 ws := by
  refine ⟨_, rfl, ?_⟩
  rcases nums_eq ws hs hl 2 with ⟨J, e, h⟩ | ⟨l, e, h1, h2⟩
  · refine .inl ⟨J, e, ?_⟩
    match ws with
    | [] => rfl
    | [a] => rfl
    | a :: b :: c :: r => rfl
    | [a, b] =>
      rcases h with h | h
      · exact absurd rfl h
      · exact nums2n h fun (x y : Nat) => (⟨8, 0, (x : Int), (y : Int)⟩ : api_Node)
  · match ws, h1 with
    | [a, b], _ =>
      obtain ⟨x, y, rfl, ha, hb⟩ := nums2s h2
      have en : nodeO 8 [a, b] = (numO a).bind fun (x : Nat) => (numO b).map fun (y : Nat) => (⟨8, 0, (x : Int), (y : Int)⟩ : api_Node) := rfl
      rw [en, ha, hb]
      exact .inr ⟨_, _, e, rfl, rfl, fun x0 x1 x2 x3 x4 x6 x7 x8 x9 x10 x11 x12 x13 x14 x15 x20 x21 x19 => l33_nx _ _⟩
theorem doc5 : DocNode 5 ws := by
  refine ⟨_, rfl, ?_⟩
  rcases nums_eq ws hs hl 3 with ⟨J, e, h⟩ | ⟨l, e, h1, h2⟩
  · refine .inl ⟨J, e, ?_⟩
    match ws with
    | [] => rfl
    | [a] => rfl
    | [a, b] => rfl
    | a :: b :: c :: d :: r => rfl
    | [a, b, c] =>
      rcases h with h | h
      · exact absurd rfl h
      · exact nums3n h fun (x y z : Nat) => (⟨5, (x : Int), (z : Int), (y : Int)⟩ : api_Node)
  · match ws, h1 with
    | [a, b, c], _ =>
      obtain ⟨x, y, z, rfl, ha, hb, hc⟩ := nums3s h2
      have en : nodeO 5 [a, b, c] = (numO a).bind fun (x : Nat) => (numO b).bind fun (y : Nat) => (numO c).map fun (z : Nat) => (⟨5, (x : Int), (z : Int), (y : Int)⟩ : api_Node) := rfl
      rw [en, ha, hb, hc]
      exact .inr ⟨_, _, e, rfl, rfl, fun x0 x1 x2 x3 x4 x6 x7 x8 x9 x10 x11 x12 x13 x14 x15 x20 x21 x19 => l33_axn _ _ _⟩
theorem docK (k : Nat) (h9 : k ≠ 9) (h0 : k ≠ 0) (h5 : k ≠ 5) (h8 : k ≠ 8) (ht : alibiref08_told (k : Int) = some (ByteArray.mk #[97, 110])) : DocNode k ws := by
  refine ⟨_, ht, ?_⟩
  have en := nodeO_k k ws h9 h0 h5 h8
  rw [en]
  rcases nums_eq ws hs hl 2 with ⟨J, e, h⟩ | ⟨l, e, h1, h2⟩
  · refine .inl ⟨J, e, ?_⟩
    match ws with
    | [] => rfl
    | [a] => rfl
    | a :: b :: c :: r => rfl
    | [a, b] =>
      rcases h with h | h
      · exact absurd rfl h
      · exact nums2n h fun (x y : Nat) => (⟨(k : Int), (x : Int), (y : Int), 0⟩ : api_Node)
  · match ws, h1 with
    | [a, b], _ =>
      obtain ⟨x, y, rfl, ha, hb⟩ := nums2s h2
      dsimp only
      rw [ha, hb]
      exact .inr ⟨_, _, e, rfl, rfl, fun x0 x1 x2 x3 x4 x6 x7 x8 x9 x10 x11 x12 x13 x14 x15 x20 x21 x19 => l33_an _ _⟩
theorem docN (k : Nat) (hk : k < 10) : DocNode k ws := by
  match k, hk with
  | 0, _ => exact doc0 ws hs hl
  | 1, _ => exact docK ws hs hl 1 (by decide) (by decide) (by decide) (by decide) rfl
  | 2, _ => exact docK ws hs hl 2 (by decide) (by decide) (by decide) (by decide) rfl
  | 3, _ => exact docK ws hs hl 3 (by decide) (by decide) (by decide) (by decide) rfl
  | 4, _ => exact docK ws hs hl 4 (by decide) (by decide) (by decide) (by decide) rfl
  | 5, _ => exact doc5 ws hs hl
  | 6, _ => exact docK ws hs hl 6 (by decide) (by decide) (by decide) (by decide) rfl
  | 7, _ => exact docK ws hs hl 7 (by decide) (by decide) (by decide) (by decide) rfl
  | 8, _ => exact doc8 ws hs hl
  | 9, _ => exact doc9 ws hs hl
  | k + 10, hk => exact absurd hk (by omega)
end
/-- The three numbers of a first line, as the document reads them. -/
theorem docH (ws : List Wd) (hs : ∀ w, w ∈ ws → w.length ≤ 66000) (hl : ws.length ≤ 100000) : (∃ J, alibiref08_numbers (ws.map bl) 3 = some (0, J) ∧ headO ws = none) ∨ (∃ x y z : Nat, alibiref08_numbers (ws.map bl) 3 = some (1, [(x : Int), (y : Int), (z : Int)]) ∧ headO ws = some (x, y, z)) := by
  rcases nums_eq ws hs hl 3 with ⟨J, e, h⟩ | ⟨l, e, h1, h2⟩
  · refine .inl ⟨J, e, ?_⟩
    match ws with
    | [] => rfl
    | [a] => rfl
    | [a, b] => rfl
    | a :: b :: c :: d :: r => rfl
    | [a, b, c] =>
      rcases h with h | h
      · exact absurd rfl h
      · exact nums3n h fun (x y z : Nat) => (x, y, z)
  · match ws, h1 with
    | [a, b, c], _ =>
      obtain ⟨x, y, z, rfl, ha, hb, hc⟩ := nums3s h2
      have en : headO [a, b, c] = (numO a).bind fun x => (numO b).bind fun y => (numO c).map fun z => (x, y, z) := rfl
      rw [en, ha, hb, hc]
      exact .inr ⟨x, y, z, e, rfl⟩
end Go.Bm.GoYtigopdlofamhlaaDoor
