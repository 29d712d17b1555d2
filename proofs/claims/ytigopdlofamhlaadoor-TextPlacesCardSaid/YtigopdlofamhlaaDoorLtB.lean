/- Numbers told: the program and the document read them alike. -/
import Derived.Test.YtigopdlofamhlaaDoorLtA
namespace Go.Bm.GoYtigopdlofamhlaaDoor
open Go.Proofs
set_option autoImplicit false
set_option linter.unusedVariables false
set_option linter.unusedSimpArgs false
/-- The number of a word of digits. -/
def dig : List UInt8 → Nat → Option Nat
  | [], n => some n
  | b :: r, n => if b.toNat < 48 ∨ 57 < b.toNat then none else dig r (10 * n + (b.toNat - 48))
theorem dig_cons (b : UInt8) (r : List UInt8) (n : Nat) : dig (b :: r) n = if b.toNat < 48 ∨ 57 < b.toNat then none else dig r (10 * n + (b.toNat - 48)) := rfl
theorem dig_lt : ∀ (r : List UInt8) (n m : Nat), dig r n = some m → m < (n + 1) * 10 ^ r.length
  | [], n, m, h => by cases h; simp
  | b :: r, n, m, h => by
    rw [dig_cons] at h
    by_cases hb : b.toNat < 48 ∨ 57 < b.toNat
    · rw [if_pos hb] at h; cases h
    · rw [if_neg hb] at h
      have h1 := dig_lt r _ m h
      refine Nat.lt_of_lt_of_le h1 ?_
      rw [List.length_cons, Nat.pow_succ, Nat.mul_comm (10 ^ r.length) 10, ← Nat.mul_assoc]
      exact Nat.mul_le_mul_right _ (by omega)
theorem dig_snoc (c : UInt8) : ∀ (r : List UInt8) (n m : Nat), dig (r ++ [c]) n = some m → ∃ k, dig r n = some k ∧ 48 ≤ c.toNat ∧ c.toNat ≤ 57 ∧ m = 10 * k + (c.toNat - 48)
  | [], n, m, h => by
    rw [List.nil_append, dig_cons] at h
    by_cases hb : c.toNat < 48 ∨ 57 < c.toNat
    · rw [if_pos hb] at h; cases h
    · rw [if_neg hb] at h
      cases h
      exact ⟨n, rfl, by omega, by omega, rfl⟩
  | b :: r, n, m, h => by
    rw [List.cons_append, dig_cons] at h
    by_cases hb : b.toNat < 48 ∨ 57 < b.toNat
    · rw [if_pos hb] at h; cases h
    · rw [if_neg hb] at h
      rw [dig_cons, if_neg hb]
      exact dig_snoc c r _ m h
theorem bl_get (l : List UInt8) (i : Nat) (h : i < (bl l).size) : (bl l)[i]'h = l[i]'h := rfl
theorem at_pre (pre r : List UInt8) (c : UInt8) (h : pre.length < (pre ++ c :: r).length) : (pre ++ c :: r)[pre.length]'h = c := by
  rw [List.getElem_append_right (by omega)]
  simp
theorem numL_succ (s : ByteArray) (b pos : Nat) (n : Int) (h : pos < s.size) : numL s (b + 1) pos n = if ((Utf8.decode s pos).1 : Int) < 48 ∨ 57 < ((Utf8.decode s pos).1 : Int) then (0, false) else numL s b (pos + (Utf8.decode s pos).2) (RowKit.wrap64 (RowKit.wrap64 (10 * n) + (((Utf8.decode s pos).1 : Int) - 48))) := by
  rw [numL, if_pos h]
def numV : Option Nat → Int × Bool
  | some m => ((m : Int), true)
  | none => (0, false)
theorem w64 {n : Int} (h1 : -9223372036854775808 ≤ n) (h2 : n ≤ 9223372036854775807) : RowKit.wrap64 n = n := by
  unfold RowKit.wrap64
  rw [Int.emod_eq_of_lt (by omega) (by omega)]
  omega
theorem numL_dig (l : List UInt8) (hl : l.length ≤ 4) : ∀ (r pre : List UInt8) (n b : Nat), l = pre ++ r → n < 10 ^ pre.length → r.length ≤ b → numL (bl l) b pre.length (n : Int) = numV (dig r n)
  | [], pre, n, b, h1, h2, h3 => by
    rw [numL_end (bl l) b pre.length _ (by rw [bl_size, h1]; simp)]
    rfl
  | c :: r, pre, n, 0, h1, h2, h3 => by simp at h3
  | c :: r, pre, n, b + 1, h1, h2, h3 => by
    have hlen : l.length = pre.length + r.length + 1 := by rw [h1]; simp; omega
    have hp : pre.length < (bl l).size := by rw [bl_size]; omega
    have hc : (bl l)[pre.length]'hp = c := by
      rw [bl_get]
      subst h1
      exact at_pre pre r c _
    have hpow : 10 ^ pre.length ≤ 10 ^ 3 := Nat.pow_le_pow_right (by omega) (by omega)
    rw [numL_succ _ _ _ _ hp, dig_cons]
    by_cases ha : c.toNat < 128
    · rw [decode_ascii (bl l) pre.length hp (by rw [hc]; exact ha), hc]
      dsimp only
      by_cases hb : c.toNat < 48 ∨ 57 < c.toNat
      · rw [if_pos hb, if_pos (by omega)]; rfl
      · rw [if_neg hb, if_neg (by omega)]
        have e : RowKit.wrap64 (RowKit.wrap64 (10 * (n : Int)) + ((c.toNat : Int) - 48)) = ((10 * n + (c.toNat - 48) : Nat) : Int) := by
          rw [w64 (n := 10 * (n : Int)) (by omega) (by omega), w64 (by omega) (by omega)]
          omega
        rw [e]
        have := numL_dig l hl r (pre ++ [c]) (10 * n + (c.toNat - 48)) b (by rw [h1]; simp) (by rw [List.length_append, List.length_singleton, Nat.pow_succ]; omega) (by simpa using h3)
        rw [List.length_append, List.length_singleton] at this
        exact this
    · have hd := decode_high (bl l) pre.length hp (by rw [hc]; omega)
      rw [if_pos (by omega), if_pos (by omega)]; rfl
theorem bv_lt (c : UInt8) : decide (c.toBitVec < 48#8) = decide (c.toNat < 48) := by
  rw [decide_eq_decide, BitVec.lt_def]; rfl
theorem bv_gt (c : UInt8) : decide (57#8 < c.toBitVec) = decide (57 < c.toNat) := by
  rw [decide_eq_decide, BitVec.lt_def]; rfl
theorem bv_sub (c : UInt8) (h : 48 ≤ c.toNat) : (BitVec.toNat (c.toBitVec - 48#8) : Int) = ((c.toNat - 48 : Nat) : Int) := by
  rw [BitVec.toNat_sub_of_le (by rw [BitVec.le_def]; exact h)]; rfl
theorem ref_l3 (l : List UInt8) (hl : l.length ≤ 66000) : ∀ (r pre : List UInt8) (n : Nat), l = pre ++ r → n < 10 ^ pre.length → pre.length ≤ 5 →
    ∃ q, alibiref08_number_l3 (bl l) (n : Int) (pre.length : Int) = some q ∧ ((∃ k, q = .x0 (-1) k ∧ (l.length ≤ 4 → dig r n = none)) ∨ (∃ k : Nat, q = .x1 (k : Int) ∧ (l.length ≤ 4 → dig r n = some k)))
  | [], pre, n, h1, h2, h3 => by
    refine ⟨_, ?_, .inr ⟨n, rfl, fun _ => rfl⟩⟩
    rw [alibiref08_number_l3, if_neg (by rw [bl_size, h1]; simp)]
  | c :: r, pre, n, h1, h2, h3 => by
    have hlen : l.length = pre.length + r.length + 1 := by rw [h1]; simp; omega
    have hp : pre.length < l.length := by omega
    have hc : l[pre.length]'hp = c := by
      subst h1
      exact at_pre pre r c _
    have hpow : 10 ^ pre.length ≤ 10 ^ 5 := Nat.pow_le_pow_right (by omega) h3
    rw [alibiref08_number_l3, if_pos (decide_eq_true (by rw [bl_size]; omega))]
    by_cases h5 : pre.length < 5
    · rw [if_pos (decide_eq_true (by omega)), if_pos (decide_eq_true (by omega)), if_pos (decide_eq_true (by rw [bl_size]; omega)), Int.toNat_natCast, byteAt_bl l _ hp, hc, bv_lt, bv_gt]
      by_cases hb : c.toNat < 48
      · rw [if_pos (decide_eq_true hb)]
        exact ⟨_, rfl, .inl ⟨_, rfl, fun _ => by rw [dig_cons, if_pos (.inl hb)]⟩⟩
      · rw [if_neg (by simpa using hb)]
        by_cases hg : 57 < c.toNat
        · rw [if_pos (decide_eq_true hg)]
          exact ⟨_, rfl, .inl ⟨_, rfl, fun _ => by rw [dig_cons, if_pos (.inr hg)]⟩⟩
        · rw [if_neg (by simpa using hg), bv_sub c (by omega), iMul_eq (by omega) (by omega), iAdd_eq (by omega) (by omega), inc _ (by omega)]
          obtain ⟨q, e1, e2⟩ := ref_l3 l hl r (pre ++ [c]) (10 * n + (c.toNat - 48)) (by rw [h1]; simp) (by rw [List.length_append, List.length_singleton, Nat.pow_succ]; omega) (by simp; omega)
          refine ⟨q, ?_, ?_⟩
          · rw [← e1]
            congr 1
            simp
          · rw [dig_cons, if_neg (by omega)]
            exact e2
    · rw [if_neg (by simp; omega)]
      exact ⟨_, rfl, .inr ⟨n, rfl, fun h => by omega⟩⟩
theorem byte_of (m : Nat) (h : m < 10) : bytesL [BitVec.ofInt 8 (iAdd 48 (m : Int))] = bl [UInt8.ofNat (48 + m)] := by
  rw [iAdd_eq (by omega) (by omega)]
  have : (BitVec.ofInt 8 (48 + (m : Int))).toNat = 48 + m := by
    rw [BitVec.toNat_ofInt]
    omega
  unfold bytesL bl
  simp only [List.map_cons, List.map_nil, this]
theorem digits_small (f m : Nat) (h : m < 10) : alibiref08_Digits_N (f + 1) (m : Int) = some (bl [UInt8.ofNat (48 + m)]) := by
  rw [alibiref08_Digits_N, alibiref08_Digits_B, if_pos (decide_eq_true (by omega)), byte_of m h]
theorem digits_big (f m : Nat) (h : 10 ≤ m) (hm : m < 1000000) {l : List UInt8} (hl : l.length ≤ 1000) (e : alibiref08_Digits_N f ((m / 10 : Nat) : Int) = some (bl l)) : alibiref08_Digits_N (f + 1) (m : Int) = some (bl (l ++ [UInt8.ofNat (48 + m % 10)])) := by
  rw [alibiref08_Digits_N, alibiref08_Digits_B, if_neg (by simp; omega)]
  have e1 : iQuo (m : Int) 10 = ((m / 10 : Nat) : Int) := by
    unfold iQuo
    rw [Int.tdiv_eq_ediv_of_nonneg (by omega), wrap64 (by omega) (by omega)]
    omega
  have e2 : iRem (m : Int) 10 = ((m % 10 : Nat) : Int) := by
    unfold iRem
    rw [Int.tmod_eq_emod_of_nonneg (by omega)]
    omega
  rw [e1, bind_some e, e2, byte_of (m % 10) (by omega), if_pos (by
    apply Nat.ble_eq_true_of_le
    have : reach = 140737488351232 := rfl
    rw [bl_size, bl_size]
    simp
    omega)]
  rfl
theorem digits_len : ∀ (k f m : Nat), k ≤ 5 → k < f → m < 10 ^ (k + 1) → ∃ l, alibiref08_Digits_N f (m : Int) = some (bl l) ∧ l.length ≤ k + 1
  | k, 0, m, hk, hf, hm => by omega
  | k, f + 1, m, hk, hf, hm => by
    by_cases h : m < 10
    · exact ⟨_, digits_small f m h, by simp⟩
    · match k, hf, hm with
      | 0, _, hm => omega
      | k + 1, hf, hm =>
        have hp : m < 10 ^ 6 := Nat.lt_of_lt_of_le hm (Nat.pow_le_pow_right (by omega) (by omega))
        obtain ⟨l, e, h1⟩ := digits_len k f (m / 10) (by omega) (by omega) (by rw [Nat.pow_succ] at hm; omega)
        exact ⟨_, digits_big f m (by omega) (by omega) (by omega) e, by simp; omega⟩
theorem digit_back (c : UInt8) (h : 48 ≤ c.toNat) : UInt8.ofNat (48 + (c.toNat - 48)) = c := by
  rw [show 48 + (c.toNat - 48) = c.toNat by omega]
  exact UInt8.ofNat_toNat
theorem digits_back : ∀ (k f m : Nat) (b : UInt8) (l : List UInt8), l.length = k → k ≤ 4 → k < f → b.toNat ≠ 48 → dig (b :: l) 0 = some m → 1 ≤ m ∧ alibiref08_Digits_N f (m : Int) = some (bl (b :: l))
  | k, 0, m, b, l, h1, h2, h3, h4, h5 => by omega
  | 0, f + 1, m, b, l, h1, h2, h3, h4, h5 => by
    have hl : l = [] := List.eq_nil_of_length_eq_zero h1
    subst hl
    obtain ⟨k, e1, e2, e3, e4⟩ := dig_snoc b [] 0 m h5
    cases e1
    refine ⟨by omega, ?_⟩
    rw [digits_small f m (by omega), e4, show 10 * 0 + (b.toNat - 48) = b.toNat - 48 by omega, digit_back b e2]
  | k + 1, f + 1, m, b, l, h1, h2, h3, h4, h5 => by
    have hne : l ≠ [] := fun h => by rw [h] at h1; simp at h1
    have hsp := List.dropLast_concat_getLast hne
    have hlen : l.dropLast.length = k := by simp [h1]
    generalize l.dropLast = r at hsp hlen
    generalize l.getLast hne = c at hsp
    subst hsp
    obtain ⟨n, e1, e2, e3, e4⟩ := dig_snoc c (b :: r) 0 m h5
    obtain ⟨i1, i2⟩ := digits_back k f n b r hlen (by omega) (by omega) h4 e1
    have hlt := dig_lt (b :: r) 0 n e1
    have hp : 10 ^ (b :: r).length ≤ 10 ^ 4 := Nat.pow_le_pow_right (by omega) (by simp; omega)
    refine ⟨by omega, ?_⟩
    rw [digits_big f m (by omega) (by omega) (l := b :: r) (by simp; omega) (by rw [show m / 10 = n by omega]; exact i2), show m % 10 = c.toNat - 48 by omega, digit_back c e2]
    rfl
/-- What a word tells. -/
def numO (l : List UInt8) : Option Nat := if l.length = 0 ∨ l.length > 4 ∨ (l.length > 1 ∧ (l.getD 0 0).toNat = 48) then none else dig l 0
theorem numM_eq (l : List UInt8) : numM (bl l) = numV (numO l) := by
  have h0 : 1 < l.length → ((bl l)[0]!).toNat = (l.getD 0 0).toNat := fun h => by
    rw [getElem!_pos (bl l) 0 (by rw [bl_size]; omega), bl_get]
    have h' : 0 < l.length := by omega
    simp [List.getD, h']
    rfl
  by_cases h : l.length = 0 ∨ l.length > 4 ∨ (l.length > 1 ∧ (l.getD 0 0).toNat = 48)
  · rw [numO, if_pos h, numM_bad (by
      rw [bl_size]
      rcases h with h | h | ⟨h, h'⟩
      · exact .inl h
      · exact .inr (.inl h)
      · exact .inr (.inr ⟨h, by rw [h0 h]; exact h'⟩))]
    rfl
  · rw [numO, if_neg h, numM_good (by
      rw [bl_size]
      intro hn
      apply h
      rcases hn with h | h | ⟨h, h'⟩
      · exact .inl h
      · exact .inr (.inl h)
      · exact .inr (.inr ⟨h, by rw [← h0 h]; exact h'⟩))]
    exact numL_dig l (by omega) l [] 0 l.length rfl (by simp) (Nat.le_refl _)
theorem numO_lt {l : List UInt8} {m : Nat} (h : numO l = some m) : m < 10000 := by
  unfold numO at h
  split at h
  · cases h
  · rename_i hc
    have := dig_lt l 0 m h
    have hp : 10 ^ l.length ≤ 10 ^ 4 := Nat.pow_le_pow_right (by omega) (by omega)
    omega
def numI : Option Nat → Int
  | some m => (m : Int)
  | none => -1
theorem number_eq (l : List UInt8) (hl : l.length ≤ 66000) : alibiref08_number (bl l) = some (numI (numO l)) := by
  obtain ⟨q, e1, e2⟩ := ref_l3 l hl l [] 0 rfl (by simp) (by simp)
  have e1' : alibiref08_number_l3 (bl l) 0 0 = some q := e1
  unfold alibiref08_number
  rw [bind_some e1']
  rcases e2 with ⟨k, rfl, h⟩ | ⟨k, rfl, h⟩
  · dsimp only
    by_cases h4 : l.length ≤ 4
    · unfold numO
      rw [h h4]
      split <;> rfl
    · rw [numO, if_pos (.inr (.inl (by omega)))]
      rfl
  · dsimp only
    rw [bl_size]
    by_cases h1 : l.length = 0
    · rw [if_pos (decide_eq_true (by omega)), numO, if_pos (.inl h1)]; rfl
    · rw [if_neg (by simp; omega)]
      by_cases h4 : l.length > 4
      · rw [if_pos (decide_eq_true (by omega)), numO, if_pos (.inr (.inl h4))]; rfl
      · rw [if_neg (by simp; omega)]
        have hd := h (by omega)
        match l, h1, h4, hd, hl with
        | b :: r, h1, h4, hd, hl =>
          simp only [List.length_cons] at h1 h4 hl
          by_cases hz : b.toNat = 48
          · by_cases hr : r.length = 0
            · have hr' : r = [] := List.eq_nil_of_length_eq_zero hr
              subst hr'
              obtain ⟨n, i1, i2, i3, i4⟩ := dig_snoc b [] 0 k hd
              cases i1
              have e : alibiref08_Digits (k : Int) = some (bl [b]) := by
                unfold alibiref08_Digits
                rw [digits_small 999 k (by omega), i4, show 10 * 0 + (b.toNat - 48) = b.toNat - 48 by omega, digit_back b i2]
              rw [bind_some e, if_neg (by simp), numO, if_neg (by simp), hd]
              rfl
            · have hd' : dig r 0 = some k := by
                rw [dig_cons, if_neg (by omega), hz] at hd
                exact hd
              have hlt := dig_lt r 0 k hd'
              obtain ⟨x, e, hx⟩ := digits_len (r.length - 1) 1000 k (by omega) (by omega) (by rw [show r.length - 1 + 1 = r.length by omega]; omega)
              have e' : alibiref08_Digits (k : Int) = some (bl x) := e
              rw [bind_some e', if_pos (by
                rw [bl_toList, bl_toList]
                have : ¬ x = b :: r := fun h => by rw [h] at hx; simp at hx; omega
                simp [this]), numO, if_pos (.inr (.inr ⟨by simp; omega, hz⟩))]
              rfl
          · obtain ⟨_, e⟩ := digits_back r.length 1000 k b r rfl (by omega) (by omega) hz hd
            have e' : alibiref08_Digits (k : Int) = some (bl (b :: r)) := e
            rw [bind_some e', if_neg (by simp), numO, if_neg (by simp only [List.length_cons]; intro h; rcases h with h | h | ⟨_, h⟩ <;> first | omega | exact hz h), hd]
            rfl
end Go.Bm.GoYtigopdlofamhlaaDoor
