import Derived.Test.YtipjbmnfnmlkfaaGreatDoorBmWords
namespace Go.Bm
set_option autoImplicit false
set_option linter.unusedVariables false
set_option linter.unusedSimpArgs false
def av (a b : Int) : Int := IntKind.wrap .i64 (a + b)
def aN (a b : Int) : Int := IntKind.wrap .i64 (a - b)
def cu (a b : Int) : Int := IntKind.wrap .i64 (a * b)
def rD (a b : Int) : Int := IntKind.wrap .i64 (a.tdiv b)
theorem FU (n : Int) : IntKind.wrap .i64 n = if n % 18446744073709551616 ≥ 9223372036854775808 then n % 18446744073709551616 - 18446744073709551616 else n % 18446744073709551616 := by
 have : IntKind.wrap .i64 n = (if (true && decide (n % 18446744073709551616 ≥ 9223372036854775808)) = true then n % 18446744073709551616 - 18446744073709551616 else n % 18446744073709551616) := rfl
 rw [this, Bool.true_and]
 by_cases h : n % 18446744073709551616 ≥ 9223372036854775808
 ·rw [if_pos (decide_eq_true h), if_pos h]
 ·rw [if_neg (by rw [decide_eq_false h]; exact Bool.false_ne_true), if_neg h]
theorem s8 {n : Int} (h1 : -9223372036854775808 ≤ n) (h2 : n ≤ 9223372036854775807) : IntKind.wrap .i64 n = n := by
 rw [FU]
 split <;> omega
theorem dI {a b : Int} (h1 : -9223372036854775808 ≤ a + b) (h2 : a + b ≤ 9223372036854775807) : av a b = a + b := s8 h1 h2
theorem iH {a b : Int} (h1 : -9223372036854775808 ≤ a - b) (h2 : a - b ≤ 9223372036854775807) : aN a b = a - b := s8 h1 h2
theorem uu {a b : Int} (h1 : -9223372036854775808 ≤ a * b) (h2 : a * b ≤ 9223372036854775807) : cu a b = a * b := s8 h1 h2
theorem mA (k : IntKind) (hk : k.signed = false) (n : Int) : k.wrap n = ((BitVec.ofInt k.bits n).toNat : Int) := by
 unfold IntKind.wrap
 simp only [hk, Bool.false_and, Bool.false_eq_true, if_false]
 rw [BitVec.toNat_ofInt]
 have h0 : (0 : Int) < 2 ^ k.bits := Int.pow_pos (by decide)
 have := Int.emod_nonneg n (show (2 ^ k.bits : Int) ≠ 0 by omega)
 rw [Int.toNat_of_nonneg (by push_cast; exact this)]
 push_cast
 rfl
theorem gu (k : IntKind) (hk : k.signed = false) (x y : BitVec k.bits) : k.wrap ((x.toNat : Int) + y.toNat) = ((x + y).toNat : Int) := by
 rw [mA k hk, BitVec.ofInt_add]; simp
theorem CR (k : IntKind) (hk : k.signed = false) (x y : BitVec k.bits) : k.wrap ((x.toNat : Int) - y.toNat) = ((x - y).toNat : Int) := by
 rw [mA k hk]
 congr 2
 rw [Int.sub_eq_add_neg, BitVec.ofInt_add, BitVec.ofInt_neg]
 simp [BitVec.sub_eq_add_neg]
theorem FV (k : IntKind) (hk : k.signed = false) (x y : BitVec k.bits) : k.wrap ((x.toNat : Int) * y.toNat) = ((x * y).toNat : Int) := by
 rw [mA k hk, BitVec.ofInt_mul]; simp
theorem wX (k : IntKind) (hk : k.signed = false) (x : BitVec k.bits) : k.wrap (x.toNat : Int) = (x.toNat : Int) := by
 rw [mA k hk]; simp
theorem f8 (k : IntKind) (hk : k.signed = false) (x y : BitVec k.bits) : k.wrap ((BitVec.ofInt k.bits (x.toNat : Int) &&& BitVec.ofInt k.bits (y.toNat : Int)).toNat : Int) = ((x &&& y).toNat : Int) := by
 rw [wX k hk]; simp
theorem fy (k : IntKind) (hk : k.signed = false) (x y : BitVec k.bits) : k.wrap ((BitVec.ofInt k.bits (x.toNat : Int) ||| BitVec.ofInt k.bits (y.toNat : Int)).toNat : Int) = ((x ||| y).toNat : Int) := by
 rw [wX k hk]; simp
theorem jZ (k : IntKind) (hk : k.signed = false) (x y : BitVec k.bits) : k.wrap ((BitVec.ofInt k.bits (x.toNat : Int) ^^^ BitVec.ofInt k.bits (y.toNat : Int)).toNat : Int) = ((x ^^^ y).toNat : Int) := by
 rw [wX k hk]; simp
theorem oF (k : IntKind) (hk : k.signed = false) (x y : BitVec k.bits) : k.wrap ((BitVec.ofInt k.bits (x.toNat : Int) &&& ~~~BitVec.ofInt k.bits (y.toNat : Int)).toNat : Int) = ((x &&& ~~~y).toNat : Int) := by
 rw [wX k hk]; simp
theorem s9 (k : IntKind) (hk : k.signed = false) (x : BitVec k.bits) (n : Nat) : k.wrap ((x.toNat : Int) * 2 ^ min n k.bits) = ((x <<< n).toNat : Int) := by
 rw [mA k hk]
 congr 1
 rw [BitVec.toNat_ofInt, BitVec.toNat_shiftLeft, Nat.shiftLeft_eq]
 have e : ((x.toNat : Int) * 2 ^ min n k.bits) % ((2 ^ k.bits : Nat) : Int) = ((x.toNat * 2 ^ min n k.bits % 2 ^ k.bits : Nat) : Int) := by push_cast; rfl
 rw [e, Int.toNat_natCast]
 rcases Nat.le_total n k.bits with h | h
 ·rw [Nat.min_eq_left h]
 ·rw [Nat.min_eq_right h]
  have h1 : x.toNat * 2 ^ k.bits % 2 ^ k.bits = 0 := Nat.mul_mod_left _ _
  have h2 : x.toNat * 2 ^ n % 2 ^ k.bits = 0 := by
   obtain ⟨j, rfl⟩ := Nat.exists_eq_add_of_le h
   rw [Nat.pow_add, ← Nat.mul_assoc, Nat.mul_right_comm]
   exact Nat.mul_mod_left _ _
  rw [h1, h2]
theorem j5 (k : IntKind) (x : BitVec k.bits) (n : Nat) : (x.toNat : Int).fdiv (2 ^ min n k.bits) = ((x >>> n).toNat : Int) := by
 rw [BitVec.toNat_ushiftRight, Nat.shiftRight_eq_div_pow]
 have e : (x.toNat : Int).fdiv (2 ^ min n k.bits) = ((x.toNat / 2 ^ min n k.bits : Nat) : Int) := by
  rw [Int.fdiv_eq_ediv_of_nonneg _ (by exact Int.le_of_lt (Int.pow_pos (by decide)))]
  push_cast; rfl
 rw [e]
 congr 1
 rcases Nat.le_total n k.bits with h | h
 ·rw [Nat.min_eq_left h]
 ·rw [Nat.min_eq_right h, Nat.div_eq_of_lt x.isLt, Nat.div_eq_of_lt (Nat.lt_of_lt_of_le x.isLt (Nat.pow_le_pow_right (by decide) h))]
theorem HO (k : IntKind) (hk : k.signed = false) (x : BitVec k.bits) : k.wrap (0 - (x.toNat : Int)) = ((-x).toNat : Int) := by
 have := CR k hk 0 x
 simpa using this
theorem zZ (k : IntKind) (hk : k.signed = false) (x : BitVec k.bits) : k.wrap ((BitVec.ofInt k.bits (if k.signed then -1 else k.max) ^^^ BitVec.ofInt k.bits (x.toNat : Int)).toNat : Int) = ((~~~x).toNat : Int) := by
 rw [wX k hk, hk]
 congr 2
 have : BitVec.ofInt k.bits (if false = true then -1 else k.max) = BitVec.allOnes k.bits := by
  simp only [Bool.false_eq_true, if_false, IntKind.max, hk]
  apply BitVec.eq_of_toNat_eq
  have h0 : 0 < 2 ^ k.bits := Nat.pow_pos (by decide)
  rw [BitVec.toNat_ofInt, BitVec.toNat_allOnes]
  have e : ((2 : Int) ^ k.bits - 1) = ((2 ^ k.bits - 1 : Nat) : Int) := by
   rw [Int.ofNat_sub h0]; push_cast; rfl
  rw [e]
  have e2 : (((2 ^ k.bits - 1 : Nat) : Int) % ((2 ^ k.bits : Nat) : Int)) = ((2 ^ k.bits - 1 : Nat) : Int) := Int.emod_eq_of_lt (by omega) (by omega)
  rw [e2]; simp
 rw [this]
 simp
theorem FW (k : IntKind) (hk : k.signed = false) (n : Int) : k.wrap n = ((BitVec.ofInt k.bits n).toNat : Int) := mA k hk n
theorem rE (k : IntKind) (hk : k.signed = false) (j : Nat) (x : BitVec j) : k.wrap (x.toNat : Int) = ((x.setWidth k.bits).toNat : Int) := by
 rw [mA k hk]
 congr 1
 rw [BitVec.toNat_ofInt, BitVec.toNat_setWidth]
 have e : ((x.toNat : Int) % ((2 ^ k.bits : Nat) : Int)) = ((x.toNat % 2 ^ k.bits : Nat) : Int) := by push_cast; rfl
 rw [e, Int.toNat_natCast]
theorem FX (j : Nat) (hj : j < 64) (x : BitVec j) : IntKind.wrap .i64 (x.toNat : Int) = (x.toNat : Int) := by
 have h := x.isLt
 have : 2 ^ j ≤ 2 ^ 63 := Nat.pow_le_pow_right (by decide) (by omega)
 have e : (2 : Nat) ^ 63 = 9223372036854775808 := by decide
 exact s8 (by omega) (by omega)
section
variable {n : Nat} (x y : BitVec n)
theorem nU : ((x.toNat : Int) == y.toNat) = (x == y) := by
 rw [Bool.eq_iff_iff]
 simp only [beq_iff_eq, Int.natCast_inj]
 exact BitVec.toNat_inj
theorem wY : ((x.toNat : Int) != y.toNat) = (x != y) := by
 unfold bne; rw [nU]
theorem HP : decide ((x.toNat : Int) < y.toNat) = decide (x < y) := by
 rw [Bool.eq_iff_iff]; simp [BitVec.lt_def]
theorem HQ : decide ((x.toNat : Int) ≤ y.toNat) = decide (x ≤ y) := by
 rw [Bool.eq_iff_iff]; simp [BitVec.le_def]
theorem HR : decide ((x.toNat : Int) > y.toNat) = decide (y < x) := HP y x
theorem HS : decide ((x.toNat : Int) ≥ y.toNat) = decide (y ≤ x) := HQ y x
end
theorem aj {k : IntKind} {a b : Int} (h : a = b) : ({ val := .pv (.int k a) } : Eff) = { val := .pv (.int k b) } := by rw [h]
theorem eK {a b : Bool} (h : a = b) : ({ val := .pv (.bool a) } : Eff) = { val := .pv (.bool b) } := by rw [h]
def fu (s : ByteArray) (i : Nat) : BitVec 8 := (s[i]!).toBitVec
theorem FY (n : Nat) : (decide (n = n) && decide (0 = 0)) = true := by simp
theorem kr.{u} {α : Sort u} {a b : α} (h : a = b := by kernel_rfl) : a = b := h
theorem bd {p : Prop} (h : p := by first | exact Nat.le_refl _ | exact Nat.zero_le _ | assumption | (simp only [fU, decide_eq_true_eq, List.length_set, List.length_append, List.length_replicate, List.length_cons, List.length_nil, Nat.zero_add] at * <;> omega)) : p := h
def Hj : Nat → Nat → List Nat
 | 0, _ => []
 | k + 1, n => (n % 2) :: Hj k (n / 2)
def cd (P : Program) (f : FuncId) (k n : Nat) : Code := sub (HB P f) (Hj k n)
def Le {α : Type} (x y : Option α) : Prop := ∀ r, x = some r → y = some r
theorem Le.refl {α : Type} (x : Option α) : Le x x := fun _ h => h
theorem Le.none {α : Type} (y : Option α) : Le none y := fun _ h => by cases h
theorem Le.bind {α β : Type} {x y : Option α} {k k' : α → Option β} (h : Le x y) (hk : ∀ v, Le (k v) (k' v)) : Le (x >>= k) (y >>= k') := fun r hr => by
 obtain ⟨v, h1, h2⟩ := uo hr
 show (y >>= k') = some r
 rw [h v h1]
 exact hk v r h2
theorem Le.ite {α : Type} {c : Prop} [Decidable c] {a b a' b' : Option α} (h1 : Le a a') (h2 : Le b b') : Le (if c then a else b) (if c then a' else b') := fun r hr => by
 by_cases hc : c
 ·rw [if_pos hc] at hr ⊢; exact h1 r hr
 ·rw [if_neg hc] at hr ⊢; exact h2 r hr
end Go.Bm
