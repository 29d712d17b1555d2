/- A line, as the document reads it; then the lines, one by one. -/
import Derived.Test.YtigopdlofamhlaaDoorLtE
namespace Go.Bm.GoYtigopdlofamhlaaDoor
open Go.Proofs
set_option autoImplicit false
set_option linter.unusedVariables false
set_option linter.unusedSimpArgs false
def nodeR (fs : FS') : Option api_Node → List (List api_Node) × Int
  | none => (fs, 0)
  | some n => (fs.set (fs.length - 1) (fs.getD (fs.length - 1) [] ++ [n]), 1)
def kindR (fs : FS') (ws : List Wd) : Option Nat → List (List api_Node) × Int
  | none => (fs, 0)
  | some k => nodeR fs (nodeO k ws)
section
variable (x0 x1 : FS') (x3 : List ByteArray) (w : Wd) (ws : List Wd) (x5 x6 x7 x8 x9 x10 x11 x12 x13 x15 : Int) (x14 : Bool)
theorem kinds_find : ∀ (m i : Nat) (x2 : FS') (x16 : Int), i + m = 10 → alibiref08_Parse_l25 x0 x1 x2 x3 ((w :: ws).map bl) x5 x6 x7 x8 x9 x10 x11 x12 x13 x14 x15 x16 (i : Int) =
    match find (Mn w) i m with
    | none => some (x2, x16)
    | some k => alibiref08_Parse_l25 x0 x1 x2 x3 ((w :: ws).map bl) x5 x6 x7 x8 x9 x10 x11 x12 x13 x14 x15 x16 (k : Int)
  | 0, i, x2, x16, h => by
    rw [alibiref08_Parse_l25, if_neg (by simp; omega)]
    rfl
  | m + 1, i, x2, x16, h => by
    rw [find_succ]
    by_cases hm : Mn w i = true
    · rw [if_pos hm]
    · rw [if_neg hm, alibiref08_Parse_l25, if_pos (decide_eq_true (by omega)), bind_some names_nm, if_pos (decide_eq_true (by omega)), if_pos (decide_eq_true (by rw [List.length_map]; show (i : Int) < ((10 : Nat) : Int); omega)), if_pos (decide_eq_true (by rw [List.map_cons, List.length_cons]; omega)), Int.toNat_natCast, nm_at, w0_at, bl_toList, bl_toList, if_pos (by
        simp only [Mn] at hm
        simp only [hm]
        rfl), inc _ (by omega)]
      exact kinds_find m (i + 1) x2 x16 (by omega)
theorem find_past {k : Nat} (hm : Mn w k = true) (hk : k < 10) : find (Mn w) (k + 1) (9 - k) = none := by
  cases hf : find (Mn w) (k + 1) (9 - k) with
  | none => rfl
  | some k' =>
    obtain ⟨h1, h2, h3⟩ := find_some hf
    have := nm_inj k hk k' (by omega) ((eq_of_beq hm).trans (eq_of_beq h3).symm)
    omega
theorem kinds_past {k : Nat} (hm : Mn w k = true) (hk : k < 10) (x2 : FS') (x16 : Int) : alibiref08_Parse_l25 x0 x1 x2 x3 ((w :: ws).map bl) x5 x6 x7 x8 x9 x10 x11 x12 x13 x14 x15 x16 ((k + 1 : Nat) : Int) = some (x2, x16) := by
  rw [kinds_find x0 x1 x3 w ws x5 x6 x7 x8 x9 x10 x11 x12 x13 x15 x14 (9 - k) (k + 1) x2 x16 (by omega), find_past w hm hk]
theorem rest_eq : List.take ((List.length ((w :: ws).map bl)) - 1) (List.drop 1 ((w :: ws).map bl)) = ws.map bl := by
  rw [lenW]
  show List.take ws.length (ws.map bl) = _
  rw [List.take_of_length_le (by simp)]
theorem kinds_eq (hs : ∀ w, w ∈ ws → w.length ≤ 66000) (hl : ws.length ≤ 100000) (fs : FS') (h0 : fs.length ≠ 0) (hf : fs.length ≤ 100000) (hr : (fs.getD (fs.length - 1) []).length ≤ 100000) :
    alibiref08_Parse_l25 x0 x1 fs x3 ((w :: ws).map bl) x5 x6 x7 x8 x9 x10 x11 x12 x13 x14 x15 0 0 =
    some (kindR fs ws (find (Mn w) 0 10)) := by
  have reach_eq : reach = 140737488351232 := rfl
  have e := kinds_find x0 x1 x3 w ws x5 x6 x7 x8 x9 x10 x11 x12 x13 x15 x14 10 0 fs 0 rfl
  have e' : alibiref08_Parse_l25 x0 x1 fs x3 ((w :: ws).map bl) x5 x6 x7 x8 x9 x10 x11 x12 x13 x14 x15 0 0 = _ := e
  rw [e']
  cases hk : find (Mn w) 0 10 with
  | none => rfl
  | some k =>
    obtain ⟨_, hk10, hm⟩ := find_some hk
    have hk10 : k < 10 := by omega
    dsimp only
    obtain ⟨t, ht, hd⟩ := docN ws hs hl k hk10
    unfold kindR
    dsimp only
    rw [alibiref08_Parse_l25, if_pos (decide_eq_true (by omega)), bind_some names_nm, if_pos (decide_eq_true (by omega)), if_pos (decide_eq_true (by rw [List.length_map]; show (k : Int) < ((10 : Nat) : Int); omega)), if_pos (decide_eq_true (by rw [List.map_cons, List.length_cons]; omega)), Int.toNat_natCast, nm_at, w0_at, bl_toList, bl_toList, if_neg (by
        simp only [Mn] at hm
        simp only [hm]
        exact Bool.false_ne_true), bind_some ht, if_pos (decide_eq_true (by rw [List.map_cons, List.length_cons]; omega)), rest_eq, inc _ (by omega)]
    rcases hd with ⟨J, e1, e2⟩ | ⟨l, n, e1, e2, e3, e4⟩
    · rw [bind_some e1, if_pos (by rfl), e2]
      exact kinds_past x0 x1 x3 w ws x5 x6 x7 x8 x9 x10 x11 x12 x13 x15 x14 hm hk10 _ _
    · rw [bind_some e1, if_neg (by show ¬ ((1 : Int) == 0) = true; decide)]
      dsimp only
      rw [bind_some (e4 _ _ _ _ _ _ _ _ _ _ _ _ _ _ _ _ _ _), e2]
      have e5 : iSub (((fs.length : Nat) : Int)) 1 = ((fs.length - 1 : Nat) : Int) := by rw [iSub_eq (by omega) (by omega)]; omega
      have hn : api_Node.mk (k : Int) n.arg n.next n.alt = n := by rw [← e3]
      dsimp only
      rw [e5, Int.toNat_natCast, if_pos (decide_eq_true (by omega)), if_pos (decide_eq_true (by omega)), hn, if_pos (by
        apply Nat.ble_eq_true_of_le
        simp only [List.length_cons, List.length_nil]
        omega)]
      exact kinds_past x0 x1 x3 w ws x5 x6 x7 x8 x9 x10 x11 x12 x13 x15 x14 hm hk10 _ _
end
/-- What the document makes of a line. -/
theorem doc_line (x0 x1 fs : FS') (x3 : List ByteArray) (x4 x5 x6 x7 x8 x9 b0 b1 b2 : Int) (first : Bool) (i : Nat) (s : ByteArray) (w : Wd) (ws : List Wd) (hi : i < x3.length) (hi9 : i ≤ 100000) (hat : List.getD x3 i ByteArray.empty = s) (hne : s.size ≠ 0) (hsz : s.size ≤ 66000) (hsp : split s 32 = (w :: ws).map bl)
    (hs : ∀ w, w ∈ ws → w.length ≤ 66000) (hl : ws.length ≤ 100000) (hf : fs.length ≤ 100000) (hr : (fs.getD (fs.length - 1) []).length ≤ 100000) :
    (∃ f x y z, lineS fs b0 b1 b2 (!first) w ws = some (f, x, y, z) ∧ alibiref08_Parse_l8 x0 x1 fs x3 x4 x5 x6 x7 x8 x9 b0 b1 b2 first (i : Int) = alibiref08_Parse_l8 x0 x1 f x3 x4 x5 x6 x7 x8 x9 x y z false ((i + 1 : Nat) : Int)) ∨
    (∃ j1 j2 j3 j4, lineS fs b0 b1 b2 (!first) w ws = none ∧ alibiref08_Parse_l8 x0 x1 fs x3 x4 x5 x6 x7 x8 x9 b0 b1 b2 first (i : Int) = some (.x0 j1 j2 j3 j4 ((i + 1 : Nat) : Int) 3)) := by
  have reach_eq : reach = 140737488351232 := rfl
  rw [alibiref08_Parse_l8, if_pos (decide_eq_true (by omega)), if_pos (decide_eq_true (by omega)), if_pos (decide_eq_true (by omega)), Int.toNat_natCast, hat, if_neg (by
    rw [nonempty s hne]
    exact Bool.false_ne_true)]
  have esp : alibiref08_split s (32#8) = some ((w :: ws).map bl) := by rw [← hsp]; exact rsplit_eq s 32 hsz
  have p1 : decide ((1 : Int) ≤ ((List.length ((w :: ws).map bl) : Nat) : Int)) = true := decide_eq_true (by rw [List.map_cons, List.length_cons]; omega)
  have p0 : decide ((0 : Int) < ((List.length ((w :: ws).map bl) : Nat) : Int)) = true := decide_eq_true (by rw [List.map_cons, List.length_cons]; omega)
  rw [bind_some esp, p1, p0, rest_eq, w0_at, show ByteArray.mk #[97, 108, 105, 98, 105] = bl [97, 108, 105, 98, 105] from rfl, show ByteArray.mk #[102, 117, 110, 99] = bl [102, 117, 110, 99] from rfl, str_ne, str_ne, inc _ (by omega)]
  unfold lineS
  cases first with
  | true =>
    rw [if_pos (c := (true = true)) rfl, if_pos (c := (true = true)) rfl, if_pos (c := (!true) = false) rfl]
    by_cases hw : w = [97, 108, 105, 98, 105]
    · rw [if_pos hw]
      rcases docH ws hs hl with ⟨J, e, h⟩ | ⟨x, y, z, e, h⟩
      · right
        rw [bind_some e, if_neg (by show ¬ ((0 : Int) == 1) = true; decide), h]
        exact ⟨_, _, _, _, rfl, rfl⟩
      · left
        rw [bind_some e, if_pos (by rfl), if_pos (c := (true = true)) rfl, h, if_pos (decide_eq_true hw), if_pos (by rfl), if_pos (by rfl), if_pos (by rfl)]
        exact ⟨_, _, _, _, rfl, rfl⟩
    · rw [if_neg hw]
      right
      rcases docH ws hs hl with ⟨J, e, h⟩ | ⟨x, y, z, e, h⟩
      · rw [bind_some e, if_neg (by show ¬ ((0 : Int) == 1) = true; decide)]
        exact ⟨_, _, _, _, rfl, rfl⟩
      · rw [bind_some e, if_pos (by rfl), if_pos (c := (true = true)) rfl, if_neg (by rw [decide_eq_true_eq]; exact hw)]
        exact ⟨_, _, _, _, rfl, rfl⟩
  | false =>
    rw [if_neg (c := (false = true)) (by decide), if_pos (c := (true = true)) rfl, if_neg (c := (!false) = false) (by decide)]
    by_cases hw : w = [102, 117, 110, 99]
    · rw [if_pos (decide_eq_true hw), if_pos hw]
      by_cases h0 : ws.length = 0
      · left
        rw [if_pos h0, if_pos (by simp [h0]), if_pos (by
          apply Nat.ble_eq_true_of_le
          simp only [List.length_cons, List.length_nil]
          omega)]
        exact ⟨_, _, _, _, rfl, rfl⟩
      · right
        rw [if_neg h0, if_neg (by simp; intro h; omega)]
        exact ⟨_, _, _, _, rfl, rfl⟩
    · rw [if_neg hw, if_neg (c := decide (w = [102, 117, 110, 99]) = true) (by rw [decide_eq_true_eq]; exact hw)]
      by_cases h0 : fs.length = 0
      · right
        rw [if_pos h0, if_neg (c := decide ((fs.length : Int) > 0) = true) (by rw [decide_eq_true_eq]; omega)]
        exact ⟨_, _, _, _, rfl, rfl⟩
      · rw [if_neg h0, if_pos (decide_eq_true (by omega)), bind_some (kinds_eq _ _ _ w ws _ _ _ _ _ _ _ _ _ _ _ hs hl fs h0 hf hr)]
        cases find (Mn w) 0 10 with
        | none =>
          right
          exact ⟨_, _, _, _, rfl, rfl⟩
        | some k =>
          obtain hn | ⟨n, hn⟩ : nodeO k ws = none ∨ ∃ n, nodeO k ws = some n := by
            cases nodeO k ws
            · exact .inl rfl
            · exact .inr ⟨_, rfl⟩
          · right
            have hk : kindR fs ws (some k) = (fs, 0) := by show nodeR fs (nodeO k ws) = _; rw [hn]; rfl
            rw [hk]
            dsimp only
            rw [hn]
            exact ⟨_, _, _, _, rfl, rfl⟩
          · left
            have hk : kindR fs ws (some k) = (fs.set (fs.length - 1) (fs.getD (fs.length - 1) [] ++ [n]), 1) := by show nodeR fs (nodeO k ws) = _; rw [hn]; rfl
            rw [hk]
            dsimp only
            rw [hn, if_neg (by decide)]
            exact ⟨_, _, _, _, rfl, rfl⟩
end Go.Bm.GoYtigopdlofamhlaaDoor
