/- A line, as the program reads it and as the document does. -/
import Derived.Test.YtigopdlofamhlaaDoorLtD
namespace Go.Bm.GoYtigopdlofamhlaaDoor
open Go.Proofs
set_option autoImplicit false
set_option linter.unusedVariables false
set_option linter.unusedSimpArgs false
abbrev FS' := List (List api_Node)
def nmL : List Wd := [[115, 107, 105, 112], [114, 101, 97, 100], [119, 114, 105, 116, 101], [108, 111, 99, 107], [117, 110, 108, 111, 99, 107], [115, 112, 97, 119, 110], [106, 111, 105, 110], [99, 97, 108, 108], [98, 114, 97, 110, 99, 104], [114, 101, 116, 117, 114, 110]]
theorem tab_nm : tabL_0 = nmL.map bl := rfl
theorem names_nm : alibiref08_Names = some (nmL.map bl) := rfl
theorem nm_at (k : Nat) : List.getD (nmL.map bl) k ByteArray.empty = bl (nmL.getD k []) := by
  simp only [List.getD, List.getElem?_map]
  cases nmL[k]? <;> rfl
theorem nm_inj : ∀ a, a < 10 → ∀ b, b < 10 → nmL.getD a [] = nmL.getD b [] → a = b := by decide
def Mn (w : Wd) (k : Nat) : Bool := nmL.getD k [] == w
theorem index_l2 (w : Wd) : ∀ (m i : Nat), i + m = 10 → slices_Index___string_string__l2 (nmL.map bl) (bl w) 10 (i : Int) = some (match find (Mn w) i m with | some k => .x0 (k : Int) | none => .x1)
  | 0, i, h => by
    rw [slices_Index___string_string__l2, if_neg (by simp; omega)]
    rfl
  | m + 1, i, h => by
    rw [slices_Index___string_string__l2, if_pos (decide_eq_true (by omega)), if_pos (decide_eq_true (by omega)), if_pos (decide_eq_true (by rw [List.length_map]; show (i : Int) < ((10 : Nat) : Int); omega)), Int.toNat_natCast, nm_at, bl_toList, bl_toList, find_succ]
    by_cases hm : Mn w i = true
    · have hw : nmL.getD i [] = w := eq_of_beq hm
      rw [if_pos hm, if_pos (by rw [hw]; simp)]
    · rw [if_neg hm, if_neg (fun he => hm (by unfold Mn; rw [eq_of_beq he]; simp)), inc _ (by omega)]
      exact index_l2 w m (i + 1) (by omega)
theorem index_eq (w : Wd) : slices_Index___string_string_ tabL_0 (bl w) = some (match find (Mn w) 0 10 with | some k => (k : Int) | none => -1) := by
  rw [tab_nm]
  unfold slices_Index___string_string_
  have e : slices_Index___string_string__l2 (nmL.map bl) (bl w) (↑(List.length (nmL.map bl))) 0 = _ := index_l2 w 10 0 rfl
  rw [bind_some e]
  cases find (Mn w) 0 10 <;> rfl
/-- What a line makes of a program. -/
def lineS (fs : FS') (b0 b1 b2 : Int) (begun : Bool) (w : Wd) (ws : List Wd) : Option (FS' × Int × Int × Int) :=
  if begun = false then (if w = [97, 108, 105, 98, 105] then (headO ws).map (fun (x : Nat × Nat × Nat) => (fs, (x.1 : Int), (x.2.1 : Int), (x.2.2 : Int))) else none)
  else if w = [102, 117, 110, 99] then (if ws.length = 0 then some (fs ++ [[]], b0, b1, b2) else none)
  else if fs.length = 0 then none
  else match find (Mn w) 0 10 with
    | none => none
    | some k => (nodeO k ws).map fun n => (fs.set (fs.length - 1) (fs.getD (fs.length - 1) [] ++ [n]), b0, b1, b2)
def Said (fs : FS') (b0 b1 b2 : Int) (r : Option (Bool × FS' × Int × Int × Int × Bool)) (q : Option (FS' × Int × Int × Int)) : Prop := match q with
  | some (f, x, y, z) => r = some (true, f, x, y, z, true)
  | none => ∃ j, r = some (false, j)
theorem str_ne (a b : Wd) : (ByteArray.toList (bl a) == ByteArray.toList (bl b)) = decide (a = b) := by
  rw [bl_toList, bl_toList]
  rw [Bool.eq_iff_iff]
  simp
theorem splt (s : ByteArray) (c : UInt8) : ∃ w ws, spl c [] s.data.toList = w :: ws ∧ split s c = (w :: ws).map bl := by
  have h := spl_len c s.data.toList []
  unfold split
  match hs : spl c [] s.data.toList with
  | [] => rw [hs] at h; simp at h
  | w :: ws => exact ⟨w, ws, rfl, rfl⟩
section
variable (fs : FS') (b0 b1 b2 : Int) (s : ByteArray) (w : Wd) (ws : List Wd)
theorem w0_at : List.getD ((w :: ws).map bl) 0 ByteArray.empty = bl w := rfl
theorem line_eq (begun : Bool) (hs : s.size ≤ 66000) (h : split s 32 = (w :: ws).map bl) (hf : fs.length ≤ 100000) (hr : (fs.getD (fs.length - 1) []).length ≤ 100000) :
    Said fs b0 b1 b2 (text_reader_line fs b0 b1 b2 begun s) (lineS fs b0 b1 b2 begun w ws) := by
  have reach_eq : reach = 140737488351232 := rfl
  unfold text_reader_line
  have hsp : strings_Split s (ByteArray.mk #[32]) = some ((w :: ws).map bl) := by rw [← h]; exact split_eq s 32 hs
  rw [bind_some hsp, if_pos (decide_eq_true (by rw [List.map_cons, List.length_cons]; omega)), if_pos (decide_eq_true (by rw [List.map_cons, List.length_cons]; omega)), w0_at]
  rw [show ByteArray.mk #[97, 108, 105, 98, 105] = bl [97, 108, 105, 98, 105] from rfl, show ByteArray.mk #[102, 117, 110, 99] = bl [102, 117, 110, 99] from rfl, str_ne, str_ne]
  unfold lineS
  cases begun with
  | false =>
    rw [if_pos (c := (!false) = true) rfl, if_pos (c := false = false) rfl]
    by_cases hw : w = [97, 108, 105, 98, 105]
    · rw [if_pos (decide_eq_true hw), if_pos hw]
      rcases fill_0 w ws fs b0 b1 b2 with ⟨j, e, h0⟩ | ⟨x, y, z, e, h0⟩
      · rw [bind_some e, h0]
        exact ⟨_, rfl⟩
      · rw [bind_some e, h0]
        rfl
    · rw [if_neg (by simpa using hw), if_neg hw]
      exact ⟨_, rfl⟩
  | true =>
    rw [if_neg (c := (!true) = true) (by decide), if_neg (c := true = false) (by decide)]
    by_cases hw : w = [102, 117, 110, 99]
    · rw [if_pos (decide_eq_true hw), if_pos hw, if_pos (by
        apply Nat.ble_eq_true_of_le
        simp
        omega), lenW]
      by_cases hl : ws.length = 0
      · rw [if_pos hl, hl]; rfl
      · rw [if_neg hl]
        exact ⟨_, by rw [show (((ws.length : Nat) : Int) == 0) = false by simp; intro h; rw [h] at hl; exact hl rfl]⟩
    · rw [if_neg (by simpa using hw), if_neg hw]
      by_cases h0 : fs.length = 0
      · rw [if_pos (by simp [h0]), if_pos h0]
        exact ⟨_, rfl⟩
      · rw [if_neg (by simpa using h0), if_neg h0, bind_some (index_eq w)]
        cases hk : find (Mn w) 0 10 with
        | none =>
          dsimp only
          rw [if_pos (by decide)]
          exact ⟨_, rfl⟩
        | some k =>
          have hk10 := find_some hk
          dsimp only
          rw [if_neg (by simp)]
          have e1 : iSub (((fs.length : Nat) : Int)) 1 = ((fs.length - 1 : Nat) : Int) := by rw [iSub_eq (by omega) (by omega)]; omega
          have hle : ∀ x : api_Node, Nat.ble ((List.length (List.getD fs (fs.length - 1) []) + List.length [x]) * 32) reach = true := fun x => by
            apply Nat.ble_eq_true_of_le
            simp only [List.length_cons, List.length_nil]
            omega
          simp only [e1, Int.toNat_natCast]
          have p1 : decide ((0 : Int) ≤ ((fs.length - 1 : Nat) : Int)) = true := decide_eq_true (by omega)
          have p2 : decide (((fs.length - 1 : Nat) : Int) < ((fs.length : Nat) : Int)) = true := decide_eq_true (by omega)
          unfold text_fields
          by_cases h9 : k = 9
          · subst h9
            rw [if_pos (by decide), bind_some rfl]
            dsimp only
            rcases fill_1 w ws with ⟨e, hn⟩ | ⟨e, hn⟩
            · rw [bind_some e, if_pos (by rfl), hn]
              exact ⟨_, rfl⟩
            · rw [bind_some e, if_neg (by exact Bool.false_ne_true), hn, if_pos p1, if_pos p2, if_pos (hle _)]
              rfl
          · rw [if_neg (by simp; omega)]
            by_cases h00 : k = 0
            · subst h00
              rw [if_pos (by decide), bind_some rfl]
              dsimp only
              rcases fill_2 w ws 0 0 0 0 with ⟨j, e, hn⟩ | ⟨x, e, hn⟩
              · rw [show ((0 : Nat) : Int) = 0 from rfl, bind_some e, if_pos (by rfl), hn]
                exact ⟨_, rfl⟩
              · rw [show ((0 : Nat) : Int) = 0 from rfl, bind_some e, if_neg (by exact Bool.false_ne_true), hn, if_pos p1, if_pos p2, if_pos (hle _)]
                rfl
            · rw [if_neg (by simp; omega)]
              by_cases h5 : k = 5
              · subst h5
                rw [if_pos (by decide), bind_some rfl]
                dsimp only
                rcases fill_3 w ws 5 0 0 0 with ⟨j, e, hn⟩ | ⟨x, y, z, e, hn⟩
                · rw [show ((5 : Nat) : Int) = 5 from rfl, bind_some e, if_pos (by rfl), hn]
                  exact ⟨_, rfl⟩
                · rw [show ((5 : Nat) : Int) = 5 from rfl, bind_some e, if_neg (by exact Bool.false_ne_true), hn, if_pos p1, if_pos p2, if_pos (hle _)]
                  rfl
              · rw [if_neg (by simp; omega)]
                by_cases h8 : k = 8
                · subst h8
                  rw [if_pos (by decide), bind_some rfl]
                  dsimp only
                  rcases fill_4 w ws 8 0 0 0 with ⟨j, e, hn⟩ | ⟨x, y, e, hn⟩
                  · rw [show ((8 : Nat) : Int) = 8 from rfl, bind_some e, if_pos (by rfl), hn]
                    exact ⟨_, rfl⟩
                  · rw [show ((8 : Nat) : Int) = 8 from rfl, bind_some e, if_neg (by exact Bool.false_ne_true), hn, if_pos p1, if_pos p2, if_pos (hle _)]
                    rfl
                · rw [if_neg (by simp; omega), bind_some rfl]
                  dsimp only
                  rcases fill_5 w ws (k : Int) 0 0 0 k h9 h00 h5 h8 with ⟨j, e, hn⟩ | ⟨x, y, e, hn⟩
                  · rw [bind_some e, if_pos (by rfl), hn]
                    exact ⟨_, rfl⟩
                  · rw [bind_some e, if_neg (by exact Bool.false_ne_true), hn, if_pos p1, if_pos p2, if_pos (hle _)]
                    rfl
end
end Go.Bm.GoYtigopdlofamhlaaDoor
