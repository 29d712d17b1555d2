/- Numbers as bytes, and a program's bytes. -/
import Derived.Test.YtipjbmnfnmlkfaaDoorLkF
namespace Go.Bm.GoYtipjbmnfnmlkfaaDoor
set_option autoImplicit false
set_option linter.unusedVariables false
set_option linter.unusedSimpArgs false
set_option maxRecDepth 100000
abbrev B8 := BitVec 8
/-- A number's bytes. -/
def putB (n : Nat) : List B8 := if n < 128 then [BitVec.ofNat 8 n] else BitVec.ofNat 8 (128 + n % 128) :: putB (n / 128)
  termination_by n
  decreasing_by omega
theorem putB_lt {n : Nat} (h : n < 128) : putB n = [BitVec.ofNat 8 n] := by rw [putB, if_pos h]
theorem putB_ge {n : Nat} (h : ¬ n < 128) : putB n = BitVec.ofNat 8 (128 + n % 128) :: putB (n / 128) := by rw [putB, if_neg h]
theorem putB_len : ∀ (k n : Nat), n < 128 ^ (k + 1) → (putB n).length ≤ k + 1
  | 0, n, h => by rw [putB_lt (by simpa using h)]; simp
  | k + 1, n, h => by
    by_cases h1 : n < 128
    · rw [putB_lt h1]; simp
    · rw [putB_ge h1, List.length_cons]
      have := putB_len k (n / 128) (Nat.div_lt_of_lt_mul (by rw [Nat.pow_succ, Nat.mul_comm] at h; exact h))
      omega
theorem putB_len5 {n : Nat} (h : n < 4294967296) : (putB n).length ≤ 5 := putB_len 4 n (Nat.lt_of_lt_of_le h (by decide))
theorem or128 (x : BitVec 32) : (BitVec.setWidth 8 x ||| 128#8) = BitVec.ofNat 8 (128 + x.toNat % 128) := by
  apply BitVec.eq_of_toNat_eq
  have key : ∀ m, m < 256 → m ||| 128 = (128 + m % 128) % 256 := by decide
  rw [BitVec.toNat_or, BitVec.toNat_setWidth, BitVec.toNat_ofNat]
  show x.toNat % 256 ||| 128 = (128 + x.toNat % 128) % 256
  rw [key _ (Nat.mod_lt _ (by decide)), Nat.mod_mod_of_dvd _ (by decide : 128 ∣ 256)]
theorem ble_of {a : Nat} (h : a ≤ 100000000000000) : Nat.ble (a * 1) reach = true := Nat.ble_eq_true_of_le (by unfold reach; omega)
theorem put_l2 : ∀ (k : Nat) (x0 : List B8) (x1 : BitVec 32), x1.toNat < 128 ^ (k + 1) → x0.length + k ≤ 1000000000 → ∃ z y, varint_Put_l2 x0 x1 = some (x0 ++ z, y) ∧ z.length ≤ k ∧ z ++ [BitVec.setWidth 8 y] = putB x1.toNat
  | k, x0, x1, h, hl => by
    by_cases h1 : x1.toNat < 128
    · refine ⟨[], x1, ?_, by simp, ?_⟩
      · rw [varint_Put_l2, if_neg (by simp only [decide_eq_true_eq, BitVec.le_def]; show ¬ 128 ≤ x1.toNat; omega), List.append_nil]
      · rw [putB_lt h1]
        simp [← BitVec.ofNat_toNat]
    · cases k with
      | zero => exact absurd (by simpa using h) h1
      | succ k =>
        have hs : (x1 >>> (BitVec.toNat (7#64))).toNat = x1.toNat / 128 := by
          rw [BitVec.toNat_ushiftRight, Nat.shiftRight_eq_div_pow]; rfl
        obtain ⟨z, y, q1, q2, q3⟩ := put_l2 k (x0 ++ [(BitVec.setWidth 8 x1) ||| (128#8)]) (x1 >>> (BitVec.toNat (7#64))) (by
          rw [hs]; exact Nat.div_lt_of_lt_mul (by rw [Nat.pow_succ, Nat.mul_comm] at h; exact h)) (by rw [List.length_append]; simp; omega)
        refine ⟨((BitVec.setWidth 8 x1) ||| (128#8)) :: z, y, ?_, by rw [List.length_cons]; omega, ?_⟩
        · rw [varint_Put_l2, if_pos (by simp only [decide_eq_true_eq, BitVec.le_def]; show 128 ≤ x1.toNat; omega), if_pos (ble_of (by simp; omega)), q1, List.append_assoc]
          rfl
        · rw [putB_ge h1, List.cons_append, q3, hs, or128]
theorem put_eq (n : BitVec 32) : varint_Put n = some (putB n.toNat) := by
  obtain ⟨z, y, q1, q2, q3⟩ := put_l2 4 [] n (Nat.lt_of_lt_of_le n.isLt (by decide)) (by simp)
  unfold varint_Put
  rw [bind_some q1]
  simp only [List.nil_append]
  rw [if_pos (ble_of (by simp; omega)), q3]
theorem num_eq (l : List B8) (n : Int) (h0 : 0 ≤ n) (h : n < 4294967296) (hl : l.length ≤ 1000000000) : wire_Writer_Num l n = some (l ++ putB n.toNat) := by
  have e : (BitVec.ofInt 32 n).toNat = n.toNat := by rw [BitVec.toNat_ofInt]; simp; omega
  unfold wire_Writer_Num
  rw [bind_some (put_eq _), e, if_pos (ble_of (by have := putB_len5 (n := n.toNat) (by omega); omega))]

/-! ### programs -/
/-- A node's bytes. -/
def nodeB (x : api_Node) : List B8 := putB x.kind.toNat ++ (if x.kind = 9 then [] else if x.kind = 0 then putB x.next.toNat else if x.kind = 5 then putB x.arg.toNat ++ (putB x.next.toNat ++ putB x.alt.toNat) else if x.kind = 8 then putB x.next.toNat ++ putB x.alt.toNat else putB x.arg.toNat ++ putB x.next.toNat)
def nodesB (l : List api_Node) : Nat → Nat → List B8
  | _, 0 => []
  | i, m + 1 => nodeB (List.getD l i d_api_Node) ++ nodesB l (i + 1) m
def funcsB (fs : FS) : Nat → Nat → List B8
  | _, 0 => []
  | f, m + 1 => putB (List.getD fs f []).length ++ nodesB (List.getD fs f []) 0 (List.getD fs f []).length ++ funcsB fs (f + 1) m
/-- A program's bytes. -/
def progB (p : api_Program) : List B8 := [97#8, 108#8, 112#8, 49#8] ++ (putB p.globals.toNat ++ (putB p.locks.toNat ++ (putB p.slots.toNat ++ (putB p.funcs.length ++ funcsB p.funcs 0 p.funcs.length))))
/-- Fields that are small, and not below 0. -/
def Sm (x : api_Node) : Prop := (0 ≤ x.kind ∧ x.kind ≤ 9) ∧ (x.kind ≠ 9 → 0 ≤ x.next ∧ x.next < 65536) ∧ (x.kind ≠ 9 → x.kind ≠ 0 → x.kind ≠ 8 → 0 ≤ x.arg ∧ x.arg < 65536) ∧ (x.kind = 5 ∨ x.kind = 8 → 0 ≤ x.alt ∧ x.alt < 65536)
theorem sm_of {p : api_Program} (hg : Good p) {f i : Nat} (hf : f < p.funcs.length) (hi : i < (List.getD p.funcs f []).length) : Sm (List.getD (List.getD p.funcs f []) i d_api_Node) := by
  have h := hg.node f i hf hi
  have h1 := hg.globals
  have h2 := hg.locks
  have h3 := hg.slots
  have h4 := hg.funcs
  have h5 := hg.le f
  generalize List.getD (List.getD p.funcs f []) i d_api_Node = x at h
  have k := h.kind
  refine ⟨k, fun h9 => ?_, fun h9 h0 h8 => ?_, fun hh => ?_⟩
  · have := h.next h9; omega
  · have a1 := h.glob; have a2 := h.lock; have a3 := h.spawn; have a4 := h.join; have a5 := h.call
    omega
  · have a3 := h.spawn; have a6 := h.alt
    omega
theorem nodeB_len {x : api_Node} (h : Sm x) : (nodeB x).length ≤ 20 := by
  obtain ⟨h1, h2, h3, h4⟩ := h
  have q0 := putB_len5 (n := x.kind.toNat) (by omega)
  unfold nodeB
  rw [List.length_append]
  split
  · simp; omega
  · rename_i k9
    have q1 := putB_len5 (n := x.next.toNat) (by have := h2 k9; omega)
    split
    · omega
    · rename_i k0
      split
      · have q2 := putB_len5 (n := x.arg.toNat) (by have := h3 k9 k0 (by omega); omega)
        have q3 := putB_len5 (n := x.alt.toNat) (by have := h4 (.inl ‹_›); omega)
        simp only [List.length_append]; omega
      · split
        · have q3 := putB_len5 (n := x.alt.toNat) (by have := h4 (.inr ‹_›); omega)
          simp only [List.length_append]; omega
        · have q2 := putB_len5 (n := x.arg.toNat) (by have := h3 k9 k0 ‹_›; omega)
          simp only [List.length_append]; omega
theorem nodesB_len {l : List api_Node} (h : ∀ i, i < l.length → Sm (List.getD l i d_api_Node)) : ∀ (m i : Nat), i + m ≤ l.length → (nodesB l i m).length ≤ 20 * m
  | 0, i, hi => by simp [nodesB]
  | m + 1, i, hi => by
    have h1 := nodeB_len (h i (by omega))
    have h2 := nodesB_len h m (i + 1) (by omega)
    simp only [nodesB, List.length_append]; omega
theorem write_l16 (x1 : FS) (x2 x3 : Int) (l : List api_Node) (hle : l.length ≤ 65536) (h : ∀ i, i < l.length → Sm (List.getD l i d_api_Node)) : ∀ (m i : Nat) (b : List B8), i + m = l.length → b.length + 20 * m ≤ 1000000000 → pcode_Write_l16 b x1 x2 x3 l (l.length : Int) (i : Int) = some (b ++ nodesB l i m)
  | 0, i, b, hi, hb => by
    rw [pcode_Write_l16, if_neg (by simp only [decide_eq_true_eq]; omega), nodesB, List.append_nil]
  | m + 1, i, b, hi, hb => by
    rw [pcode_Write_l16, if_pos (decide_eq_true (by omega)), if_pos (decide_eq_true (by omega)), if_pos (decide_eq_true (by omega)), Int.toNat_natCast i, inc i (by omega)]
    have hx := h i (by omega)
    have hl := nodeB_len hx
    have hw := write_l16 x1 x2 x3 l hle h m (i + 1) (b ++ nodeB (List.getD l i d_api_Node)) (by omega) (by rw [List.length_append]; omega)
    rw [nodesB, ← List.append_assoc, ← hw]
    generalize List.getD l i d_api_Node = x at hx hl
    obtain ⟨h1, h2, h3, h4⟩ := hx
    have q0 := putB_len5 (n := x.kind.toNat) (by omega)
    rw [bind_some (num_eq b x.kind (by omega) (by omega) (by omega))]
    unfold pcode_parts nodeB
    by_cases k9 : x.kind = 9
    · rw [if_pos (eqT k9), if_pos k9, List.append_nil]
      rfl
    rw [if_neg (eqF k9), if_neg k9]
    have n2 := h2 k9
    have q1 := putB_len5 (n := x.next.toNat) (by omega)
    by_cases k0 : x.kind = 0
    · rw [if_pos (eqT k0), if_pos k0]
      simp only [bind, Option.bind_some, pcode_Write_l20_1, pcode_Write_l20_2]
      rw [num_eq _ x.next (by omega) (by omega) (by rw [List.length_append]; omega)]
      simp only [Option.bind_some, List.append_assoc]
    rw [if_neg (eqF k0), if_neg k0]
    by_cases k5 : x.kind = 5
    · have n3 := h3 k9 k0 (by omega)
      have n4 := h4 (.inl k5)
      have q2 := putB_len5 (n := x.arg.toNat) (by omega)
      rw [if_pos (eqT k5), if_pos k5]
      simp only [bind, Option.bind_some, pcode_Write_l20_3, pcode_Write_l20_4, pcode_Write_l20_5, pcode_Write_l20_6]
      rw [num_eq _ x.arg (by omega) (by omega) (by rw [List.length_append]; omega)]
      simp only [Option.bind_some]
      rw [num_eq _ x.next (by omega) (by omega) (by simp only [List.length_append]; omega)]
      simp only [Option.bind_some]
      rw [num_eq _ x.alt (by omega) (by omega) (by simp only [List.length_append]; omega)]
      simp only [Option.bind_some, List.append_assoc]
    rw [if_neg (eqF k5), if_neg k5]
    by_cases k8 : x.kind = 8
    · have n4 := h4 (.inr k8)
      rw [if_pos (eqT k8), if_pos k8]
      simp only [bind, Option.bind_some, pcode_Write_l20_7, pcode_Write_l20_8, pcode_Write_l20_9]
      rw [num_eq _ x.next (by omega) (by omega) (by simp only [List.length_append]; omega)]
      simp only [Option.bind_some]
      rw [num_eq _ x.alt (by omega) (by omega) (by simp only [List.length_append]; omega)]
      simp only [Option.bind_some, List.append_assoc]
    · have n3 := h3 k9 k0 k8
      have q2 := putB_len5 (n := x.arg.toNat) (by omega)
      rw [if_neg (eqF k8), if_neg k8]
      simp only [bind, Option.bind_some, pcode_Write_l20_10, pcode_Write_l20_11, pcode_Write_l20_12]
      rw [num_eq _ x.arg (by omega) (by omega) (by simp only [List.length_append]; omega)]
      simp only [Option.bind_some]
      rw [num_eq _ x.next (by omega) (by omega) (by simp only [List.length_append]; omega)]
      simp only [Option.bind_some, List.append_assoc]
theorem funcsB_len {p : api_Program} (hg : Good p) : ∀ (m f : Nat), f + m ≤ p.funcs.length → (funcsB p.funcs f m).length ≤ 1285 * m
  | 0, f, hi => by simp [funcsB]
  | m + 1, f, hi => by
    have hle := hg.le f
    have h1 := nodesB_len (fun i hi' => sm_of hg (f := f) (by omega) hi') (List.getD p.funcs f []).length 0 (by omega)
    have h2 := funcsB_len hg m (f + 1) (by omega)
    have h3 := putB_len5 (n := (List.getD p.funcs f []).length) (by omega)
    simp only [funcsB, List.length_append]; omega
theorem write_l12 {p : api_Program} (hg : Good p) : ∀ (m f : Nat) (b : List B8), f + m = p.funcs.length → b.length + 1285 * m ≤ 100000000 → pcode_Write_l12 b p.funcs (p.funcs.length : Int) (f : Int) = some (b ++ funcsB p.funcs f m)
  | 0, f, b, hi, hb => by
    rw [pcode_Write_l12, if_neg (by simp only [decide_eq_true_eq]; omega), funcsB, List.append_nil]
  | m + 1, f, b, hi, hb => by
    have hn := hg.funcs
    have hle := hg.le f
    have h3 := putB_len5 (n := (List.getD p.funcs f []).length) (by omega)
    have h1 := nodesB_len (fun i hi' => sm_of hg (f := f) (by omega) hi') (List.getD p.funcs f []).length 0 (by omega)
    have hw := write_l12 hg m (f + 1) (b ++ (putB (List.getD p.funcs f []).length ++ nodesB (List.getD p.funcs f []) 0 (List.getD p.funcs f []).length)) (by omega) (by simp only [List.length_append]; omega)
    rw [pcode_Write_l12, if_pos (decide_eq_true (by omega)), if_pos (decide_eq_true (by omega)), if_pos (decide_eq_true (by omega)), Int.toNat_natCast f, inc f (by omega), bind_some (num_eq b _ (by omega) (by omega) (by omega)), Int.toNat_natCast]
    have h16 := write_l16 p.funcs (p.funcs.length : Int) (f : Int) (List.getD p.funcs f []) (by omega) (fun i hi' => sm_of hg (f := f) (by omega) hi') (List.getD p.funcs f []).length 0 (b ++ putB (List.getD p.funcs f []).length) (by omega) (by rw [List.length_append]; omega)
    rw [show ((0 : Nat) : Int) = 0 from rfl] at h16
    rw [bind_some h16, List.append_assoc, hw, funcsB]
    simp only [List.append_assoc]
theorem progB_len {p : api_Program} (hg : Good p) : (progB p).length ≤ 30000 := by
  have h1 := hg.globals; have h2 := hg.locks; have h3 := hg.slots; have h4 := hg.funcs
  have h := funcsB_len hg p.funcs.length 0 (by omega)
  have q1 := putB_len5 (n := p.globals.toNat) (by omega)
  have q2 := putB_len5 (n := p.locks.toNat) (by omega)
  have q3 := putB_len5 (n := p.slots.toNat) (by omega)
  have q4 := putB_len5 (n := p.funcs.length) (by omega)
  unfold progB
  simp only [List.length_append, List.length_cons, List.length_nil]
  omega
def numsB (l : List Int) : Nat → Nat → List B8
  | _, 0 => []
  | i, m + 1 => putB (List.getD l i 0).toNat ++ numsB l (i + 1) m
theorem write_l7 (p : api_Program) (l : List Int) (hle : l.length ≤ 65536) (h : ∀ i, i < l.length → 0 ≤ List.getD l i 0 ∧ List.getD l i 0 < 65536) : ∀ (m i : Nat) (b : List B8), i + m = l.length → b.length + 5 * m ≤ 1000000000 → pcode_Write_l7 b l p.globals p.locks p.slots p.funcs (l.length : Int) (i : Int) = some (b ++ numsB l i m)
  | 0, i, b, hi, hb => by
    rw [pcode_Write_l7, if_neg (by simp only [decide_eq_true_eq]; omega), numsB, List.append_nil]
  | m + 1, i, b, hi, hb => by
    have hx := h i (by omega)
    have q := putB_len5 (n := (List.getD l i 0).toNat) (by omega)
    have hw := write_l7 p l hle h m (i + 1) (b ++ putB (List.getD l i 0).toNat) (by omega) (by rw [List.length_append]; omega)
    rw [pcode_Write_l7, if_pos (decide_eq_true (by omega)), if_pos (decide_eq_true (by omega)), if_pos (decide_eq_true (by omega)), Int.toNat_natCast i, inc i (by omega), bind_some (num_eq b _ hx.1 (by omega) (by omega)), hw, numsB, List.append_assoc]
theorem write_good {p : api_Program} (hg : Good p) (hk : prog_Check p = some (0, 0, 0)) : pcode_Write p = some (0, progB p) := by
  have h1 := hg.globals; have h2 := hg.locks; have h3 := hg.slots; have h4 := hg.funcs
  have q1 := putB_len5 (n := p.globals.toNat) (by omega)
  have q2 := putB_len5 (n := p.locks.toNat) (by omega)
  have q3 := putB_len5 (n := p.slots.toNat) (by omega)
  have q4 := putB_len5 (n := p.funcs.length) (by omega)
  unfold pcode_Write
  rw [bind_some hk, if_neg (by decide)]
  unfold wire_Writer_Raw
  rw [if_pos (by decide), bind_some rfl, List.nil_append]
  have h7 := write_l7 p [p.globals, p.locks, p.slots, (p.funcs.length : Int)] (by simp) (fun i hi => by
    have : i = 0 ∨ i = 1 ∨ i = 2 ∨ i = 3 := by simp at hi; omega
    rcases this with rfl | rfl | rfl | rfl
    · show 0 ≤ p.globals ∧ p.globals < 65536; omega
    · show 0 ≤ p.locks ∧ p.locks < 65536; omega
    · show 0 ≤ p.slots ∧ p.slots < 65536; omega
    · show 0 ≤ (p.funcs.length : Int) ∧ (p.funcs.length : Int) < 65536; omega) 4 0 [97#8, 108#8, 112#8, 49#8] rfl (by simp)
  have e7 : numsB [p.globals, p.locks, p.slots, (p.funcs.length : Int)] 0 4 = putB p.globals.toNat ++ (putB p.locks.toNat ++ (putB p.slots.toNat ++ (putB p.funcs.length ++ []))) := rfl
  rw [e7, List.append_nil] at h7
  rw [bind_some (show pcode_Write_l7 [97#8, 108#8, 112#8, 49#8] [p.globals, p.locks, p.slots, (p.funcs.length : Int)] p.globals p.locks p.slots p.funcs _ 0 = _ from h7)]
  have h12 := write_l12 hg p.funcs.length 0 ([97#8, 108#8, 112#8, 49#8] ++ (putB p.globals.toNat ++ (putB p.locks.toNat ++ (putB p.slots.toNat ++ putB p.funcs.length)))) (by omega) (by simp only [List.length_append, List.length_cons, List.length_nil]; omega)
  rw [show ((0 : Nat) : Int) = 0 from rfl] at h12
  have hl := progB_len hg
  have ep : [97#8, 108#8, 112#8, 49#8] ++ (putB p.globals.toNat ++ (putB p.locks.toNat ++ (putB p.slots.toNat ++ putB p.funcs.length))) ++ funcsB p.funcs 0 p.funcs.length = progB p := by
    unfold progB; simp only [List.append_assoc]
  rw [bind_some h12, ep]
  unfold wire_Writer_Bytes
  rw [if_pos (ble_of (by simp; omega)), List.nil_append]
  rfl
theorem write_bad {p : api_Program} {a b e : Int} (hk : prog_Check p = some (a, b, e)) (he : e ≠ 0) : pcode_Write p = some (e, []) := by
  unfold pcode_Write
  rw [bind_some hk, if_pos (neT he)]
end Go.Bm.GoYtipjbmnfnmlkfaaDoor
