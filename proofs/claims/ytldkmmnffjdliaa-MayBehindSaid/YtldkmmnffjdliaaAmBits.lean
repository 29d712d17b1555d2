/- Plain Lean: numbers of 32 bits as the machine's words reckon with them, and the sets that they stand for. -/
import Derived.Test.YtldkmmnffjdliaaAmWords
import Derived.IntWalk
namespace Go.Am
set_option autoImplicit false
set_option linter.unusedVariables false
set_option linter.unusedSimpArgs false

theorem u32_nat (n : Nat) (h : n < 2 ^ 32) : IntKind.wrap .u32 (n : Int) = n := IntWalk.u32_in _ (by omega)
theorem u64_nat (n : Nat) (h : n < 2 ^ 64) : IntKind.wrap .u64 (n : Int) = n := IntWalk.u64_in _ (by omega)
theorem bv_nat (n : Nat) : BitVec.ofInt 32 (n : Int) = BitVec.ofNat 32 n := by
  apply BitVec.eq_of_toNat_eq
  rw [BitVec.toNat_ofInt, BitVec.toNat_ofNat]
  omega
theorem bv_toNat (n : Nat) (h : n < 2 ^ 32) : (BitVec.ofNat 32 n).toNat = n := by rw [BitVec.toNat_ofNat, Nat.mod_eq_of_lt h]

theorem wAnd_nat (a b : Nat) (ha : a < 2 ^ 32) (hb : b < 2 ^ 32) : wAnd .u32 a b = ((a &&& b : Nat) : Int) := by
  show IntKind.wrap .u32 ((BitVec.ofInt 32 (a : Int) &&& BitVec.ofInt 32 (b : Int)).toNat : Int) = _
  rw [bv_nat, bv_nat, BitVec.toNat_and, bv_toNat a ha, bv_toNat b hb, u32_nat]
  exact Nat.and_lt_two_pow _ hb
theorem wOr_nat (a b : Nat) (ha : a < 2 ^ 32) (hb : b < 2 ^ 32) : wOr .u32 a b = ((a ||| b : Nat) : Int) := by
  show IntKind.wrap .u32 ((BitVec.ofInt 32 (a : Int) ||| BitVec.ofInt 32 (b : Int)).toNat : Int) = _
  rw [bv_nat, bv_nat, BitVec.toNat_or, bv_toNat a ha, bv_toNat b hb, u32_nat]
  exact Nat.or_lt_two_pow ha hb
/-- The one set without the other. -/
def without (a b : Nat) : Nat := (BitVec.ofNat 32 a &&& ~~~BitVec.ofNat 32 b).toNat
theorem without_lt (a b : Nat) : without a b < 2 ^ 32 := BitVec.isLt _
theorem without_bit (a b i : Nat) (hi : i < 32) (ha : a < 2 ^ 32) (hb : b < 2 ^ 32) : (without a b).testBit i = (a.testBit i && !b.testBit i) := by
  unfold without
  rw [BitVec.toNat_and, Nat.testBit_and, bv_toNat a ha]
  congr 1
  show (~~~BitVec.ofNat 32 b).toNat.testBit i = _
  rw [BitVec.testBit_toNat, BitVec.getLsbD_not, ← BitVec.testBit_toNat, bv_toNat b hb]
  simp [hi]
theorem wAndNot_nat (a b : Nat) (ha : a < 2 ^ 32) (hb : b < 2 ^ 32) : wAndNot .u32 a b = ((without a b : Nat) : Int) := by
  show IntKind.wrap .u32 ((BitVec.ofInt 32 (a : Int) &&& ~~~BitVec.ofInt 32 (b : Int)).toNat : Int) = _
  rw [bv_nat, bv_nat]
  exact u32_nat _ (without_lt a b)
theorem wShl_one (i : Nat) (hi : i < 32) : wShl .u32 1 (i : Int) = ((2 ^ i : Nat) : Int) := by
  show IntKind.wrap .u32 (1 * 2 ^ min (i : Int).toNat 32) = _
  have e : min (i : Int).toNat 32 = i := by rw [Int.toNat_natCast]; omega
  rw [e, Int.one_mul]
  have h2 : ((2 : Int) ^ i) = ((2 ^ i : Nat) : Int) := by simp
  rw [h2]
  exact u32_nat _ (Nat.pow_lt_pow_right (by omega) hi)
theorem wShr_nat (a i : Nat) (hi : i < 32) : wShr .u32 (a : Int) (i : Int) = ((a / 2 ^ i : Nat) : Int) := by
  show Int.fdiv (a : Int) (2 ^ min (i : Int).toNat 32) = _
  have e : min (i : Int).toNat 32 = i := by rw [Int.toNat_natCast]; omega
  rw [e]
  have h2 : ((2 : Int) ^ i) = ((2 ^ i : Nat) : Int) := by simp
  rw [h2, Int.fdiv_eq_ediv_of_nonneg _ (Int.natCast_nonneg _)]
  rfl

/-- Is an id in a set? -/
def hasB (x : Nat) (i : Int) : Bool := decide (0 ≤ i) && decide (i < 32) && x.testBit i.toNat
theorem hasB_nat (x i : Nat) (hi : i < 32) : hasB x i = x.testBit i := by
  unfold hasB
  have : decide ((0 : Int) ≤ (i : Int)) = true := by simp
  have h2 : decide ((i : Int) < 32) = true := by simp; omega
  rw [this, h2]
  simp
/-- The set of one id. -/
def oneB (i : Int) : Nat := if 0 ≤ i ∧ i < 32 then 2 ^ i.toNat else 0
theorem oneB_lt (i : Int) : oneB i < 2 ^ 32 := by
  unfold oneB
  split
  · rename_i h
    exact Nat.pow_lt_pow_right (by omega) (by omega)
  · decide
theorem oneB_bit (i : Int) (k : Nat) (hk : k < 32) : (oneB i).testBit k = decide ((k : Int) = i) := by
  unfold oneB
  split
  · rename_i h
    rw [Nat.testBit_two_pow]
    have : (i.toNat = k) ↔ ((k : Int) = i) := by omega
    exact decide_eq_decide.2 this
  · rename_i h
    have : ¬ (k : Int) = i := fun e => h (by omega)
    simp [this]

theorem bits_ext (a b : Nat) (ha : a < 2 ^ 32) (hb : b < 2 ^ 32) (h : ∀ k, k < 32 → a.testBit k = b.testBit k) : a = b := by
  apply Nat.eq_of_testBit_eq
  intro k
  by_cases hk : k < 32
  · exact h k hk
  · have h1 : a < 2 ^ k := Nat.lt_of_lt_of_le ha (Nat.pow_le_pow_right (by omega) (by omega))
    have h2 : b < 2 ^ k := Nat.lt_of_lt_of_le hb (Nat.pow_le_pow_right (by omega) (by omega))
    rw [Nat.testBit_lt_two_pow h1, Nat.testBit_lt_two_pow h2]

theorem u32_cases {x : Int} (h : (Lit.int .u32 x).wf = true) : ∃ n : Nat, x = (n : Int) ∧ n < 2 ^ 32 := by
  simp only [Lit.wf, Bool.and_eq_true, decide_eq_true_eq] at h
  have h1 : (0 : Int) ≤ x := h.1
  have h2 : x ≤ 4294967295 := h.2
  exact ⟨x.toNat, by omega, by omega⟩
theorem i64_range {x : Int} (h : (Lit.int .i64 x).wf = true) : -9223372036854775808 ≤ x ∧ x ≤ 9223372036854775807 := by
  simp only [Lit.wf, Bool.and_eq_true, decide_eq_true_eq] at h
  exact h

theorem low_bit (a : Nat) (ha : a < 2 ^ 32) : ((wAnd .u32 (a : Int) 1 : Int) == 1) = a.testBit 0 := by
  have := wAnd_nat a 1 ha (by decide)
  rw [show ((1 : Nat) : Int) = 1 from rfl] at this
  rw [this, Nat.and_one_is_mod, Nat.testBit_zero]
  by_cases h : a % 2 = 1
  · simp [h]
  · have : a % 2 = 0 := by omega
    simp [this]
theorem shr_bit (a i : Nat) : (a / 2 ^ i).testBit 0 = a.testBit i := by rw [Nat.testBit_div_two_pow, Nat.zero_add]
theorem tmod_bit (a : Nat) : ((Int.tmod (a : Int) 2 : Int) == 1) = a.testBit 0 := by
  rw [Nat.testBit_zero]
  have : Int.tmod (a : Int) 2 = ((a % 2 : Nat) : Int) := rfl
  rw [this]
  by_cases h : a % 2 = 1
  · simp [h]
  · have : a % 2 = 0 := by omega
    simp [this]
theorem wQuo_two (a : Nat) (ha : a < 2 ^ 64) : wQuo .u64 (a : Int) 2 = ((a / 2 : Nat) : Int) := by
  show IntKind.wrap .u64 (Int.tdiv (a : Int) 2) = _
  have : Int.tdiv (a : Int) 2 = ((a / 2 : Nat) : Int) := rfl
  rw [this]
  exact u64_nat _ (by omega)
theorem wAdd64 (a b : Int) (h : -9223372036854775808 ≤ a + b ∧ a + b ≤ 9223372036854775807) : wAdd .i64 a b = a + b := IntWalk.i64_in _ h
end Go.Am
