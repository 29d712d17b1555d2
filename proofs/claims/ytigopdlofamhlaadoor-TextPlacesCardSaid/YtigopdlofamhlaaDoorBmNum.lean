/- The abstract machine: words for numbers. -/
import Derived.Test.YtigopdlofamhlaaDoorBmWords
namespace Go.Bm
set_option autoImplicit false
set_option linter.unusedVariables false
set_option linter.unusedSimpArgs false

/-! ### numbers with a sign -/
def iAdd (a b : Int) : Int := IntKind.wrap .i64 (a + b)
def iSub (a b : Int) : Int := IntKind.wrap .i64 (a - b)
def iMul (a b : Int) : Int := IntKind.wrap .i64 (a * b)
def iAnd (a b : Int) : Int := IntKind.wrap .i64 (BitVec.ofInt 64 a &&& BitVec.ofInt 64 b).toNat
def iOr (a b : Int) : Int := IntKind.wrap .i64 (BitVec.ofInt 64 a ||| BitVec.ofInt 64 b).toNat
def iXor (a b : Int) : Int := IntKind.wrap .i64 (BitVec.ofInt 64 a ^^^ BitVec.ofInt 64 b).toNat
def iAndNot (a b : Int) : Int := IntKind.wrap .i64 (BitVec.ofInt 64 a &&& ~~~BitVec.ofInt 64 b).toNat
def iShl (a : Int) (n : Nat) : Int := IntKind.wrap .i64 (a * 2 ^ min n 64)
def iShr (a : Int) (n : Nat) : Int := a.fdiv (2 ^ min n 64)
def iQuo (a b : Int) : Int := IntKind.wrap .i64 (a.tdiv b)
def iRem (a b : Int) : Int := a.tmod b
theorem wrap_i64 (n : Int) : IntKind.wrap .i64 n = if n % 18446744073709551616 ≥ 9223372036854775808 then n % 18446744073709551616 - 18446744073709551616 else n % 18446744073709551616 := by
  have : IntKind.wrap .i64 n = (if (true && decide (n % 18446744073709551616 ≥ 9223372036854775808)) = true then n % 18446744073709551616 - 18446744073709551616 else n % 18446744073709551616) := rfl
  rw [this, Bool.true_and]
  by_cases h : n % 18446744073709551616 ≥ 9223372036854775808
  · rw [if_pos (decide_eq_true h), if_pos h]
  · rw [if_neg (by rw [decide_eq_false h]; exact Bool.false_ne_true), if_neg h]
theorem wrap64 {n : Int} (h1 : -9223372036854775808 ≤ n) (h2 : n ≤ 9223372036854775807) : IntKind.wrap .i64 n = n := by
  rw [wrap_i64]
  split <;> omega
theorem iAdd_eq {a b : Int} (h1 : -9223372036854775808 ≤ a + b) (h2 : a + b ≤ 9223372036854775807) : iAdd a b = a + b := wrap64 h1 h2
theorem iSub_eq {a b : Int} (h1 : -9223372036854775808 ≤ a - b) (h2 : a - b ≤ 9223372036854775807) : iSub a b = a - b := wrap64 h1 h2
theorem iMul_eq {a b : Int} (h1 : -9223372036854775808 ≤ a * b) (h2 : a * b ≤ 9223372036854775807) : iMul a b = a * b := wrap64 h1 h2

/-! ### numbers without a sign -/
theorem wrap_un (k : IntKind) (hk : k.signed = false) (n : Int) : k.wrap n = ((BitVec.ofInt k.bits n).toNat : Int) := by
  unfold IntKind.wrap
  simp only [hk, Bool.false_and, Bool.false_eq_true, if_false]
  rw [BitVec.toNat_ofInt]
  have h0 : (0 : Int) < 2 ^ k.bits := Int.pow_pos (by decide)
  have := Int.emod_nonneg n (show (2 ^ k.bits : Int) ≠ 0 by omega)
  rw [Int.toNat_of_nonneg (by push_cast; exact this)]
  push_cast
  rfl
theorem un_add (k : IntKind) (hk : k.signed = false) (x y : BitVec k.bits) : k.wrap ((x.toNat : Int) + y.toNat) = ((x + y).toNat : Int) := by
  rw [wrap_un k hk, BitVec.ofInt_add]; simp
theorem un_sub (k : IntKind) (hk : k.signed = false) (x y : BitVec k.bits) : k.wrap ((x.toNat : Int) - y.toNat) = ((x - y).toNat : Int) := by
  rw [wrap_un k hk]
  congr 2
  rw [Int.sub_eq_add_neg, BitVec.ofInt_add, BitVec.ofInt_neg]
  simp [BitVec.sub_eq_add_neg]
theorem un_mul (k : IntKind) (hk : k.signed = false) (x y : BitVec k.bits) : k.wrap ((x.toNat : Int) * y.toNat) = ((x * y).toNat : Int) := by
  rw [wrap_un k hk, BitVec.ofInt_mul]; simp
theorem un_nat (k : IntKind) (hk : k.signed = false) (x : BitVec k.bits) : k.wrap (x.toNat : Int) = (x.toNat : Int) := by
  rw [wrap_un k hk]; simp
theorem un_and (k : IntKind) (hk : k.signed = false) (x y : BitVec k.bits) : k.wrap ((BitVec.ofInt k.bits (x.toNat : Int) &&& BitVec.ofInt k.bits (y.toNat : Int)).toNat : Int) = ((x &&& y).toNat : Int) := by
  rw [un_nat k hk]; simp
theorem un_or (k : IntKind) (hk : k.signed = false) (x y : BitVec k.bits) : k.wrap ((BitVec.ofInt k.bits (x.toNat : Int) ||| BitVec.ofInt k.bits (y.toNat : Int)).toNat : Int) = ((x ||| y).toNat : Int) := by
  rw [un_nat k hk]; simp
theorem un_xor (k : IntKind) (hk : k.signed = false) (x y : BitVec k.bits) : k.wrap ((BitVec.ofInt k.bits (x.toNat : Int) ^^^ BitVec.ofInt k.bits (y.toNat : Int)).toNat : Int) = ((x ^^^ y).toNat : Int) := by
  rw [un_nat k hk]; simp
theorem un_andNot (k : IntKind) (hk : k.signed = false) (x y : BitVec k.bits) : k.wrap ((BitVec.ofInt k.bits (x.toNat : Int) &&& ~~~BitVec.ofInt k.bits (y.toNat : Int)).toNat : Int) = ((x &&& ~~~y).toNat : Int) := by
  rw [un_nat k hk]; simp
theorem un_shl (k : IntKind) (hk : k.signed = false) (x : BitVec k.bits) (n : Nat) : k.wrap ((x.toNat : Int) * 2 ^ min n k.bits) = ((x <<< n).toNat : Int) := by
  rw [wrap_un k hk]
  congr 1
  rw [BitVec.toNat_ofInt, BitVec.toNat_shiftLeft, Nat.shiftLeft_eq]
  have e : ((x.toNat : Int) * 2 ^ min n k.bits) % ((2 ^ k.bits : Nat) : Int) = ((x.toNat * 2 ^ min n k.bits % 2 ^ k.bits : Nat) : Int) := by push_cast; rfl
  rw [e, Int.toNat_natCast]
  rcases Nat.le_total n k.bits with h | h
  · rw [Nat.min_eq_left h]
  · rw [Nat.min_eq_right h]
    have h1 : x.toNat * 2 ^ k.bits % 2 ^ k.bits = 0 := Nat.mul_mod_left _ _
    have h2 : x.toNat * 2 ^ n % 2 ^ k.bits = 0 := by
      obtain ⟨j, rfl⟩ := Nat.exists_eq_add_of_le h
      rw [Nat.pow_add, ← Nat.mul_assoc, Nat.mul_right_comm]
      exact Nat.mul_mod_left _ _
    rw [h1, h2]
theorem un_shr (k : IntKind) (x : BitVec k.bits) (n : Nat) : (x.toNat : Int).fdiv (2 ^ min n k.bits) = ((x >>> n).toNat : Int) := by
  rw [BitVec.toNat_ushiftRight, Nat.shiftRight_eq_div_pow]
  have e : (x.toNat : Int).fdiv (2 ^ min n k.bits) = ((x.toNat / 2 ^ min n k.bits : Nat) : Int) := by
    rw [Int.fdiv_eq_ediv_of_nonneg _ (by exact Int.le_of_lt (Int.pow_pos (by decide)))]
    push_cast; rfl
  rw [e]
  congr 1
  rcases Nat.le_total n k.bits with h | h
  · rw [Nat.min_eq_left h]
  · rw [Nat.min_eq_right h, Nat.div_eq_of_lt x.isLt, Nat.div_eq_of_lt (Nat.lt_of_lt_of_le x.isLt (Nat.pow_le_pow_right (by decide) h))]
theorem un_quo (k : IntKind) (hk : k.signed = false) (x y : BitVec k.bits) : k.wrap ((x.toNat : Int).tdiv y.toNat) = ((x / y).toNat : Int) := by
  have e : (x.toNat : Int).tdiv y.toNat = ((x / y).toNat : Int) := by
    rw [BitVec.toNat_udiv]
    exact (Int.ofNat_tdiv _ _).symm
  rw [e, un_nat k hk]
theorem un_rem (k : IntKind) (x y : BitVec k.bits) : (x.toNat : Int).tmod y.toNat = ((x % y).toNat : Int) := by
  rw [BitVec.toNat_umod]
  exact (Int.ofNat_tmod _ _).symm
theorem un_neg (k : IntKind) (hk : k.signed = false) (x : BitVec k.bits) : k.wrap (0 - (x.toNat : Int)) = ((-x).toNat : Int) := by
  have := un_sub k hk 0 x
  simpa using this
theorem un_not (k : IntKind) (hk : k.signed = false) (x : BitVec k.bits) : k.wrap ((BitVec.ofInt k.bits (if k.signed then -1 else k.max) ^^^ BitVec.ofInt k.bits (x.toNat : Int)).toNat : Int) = ((~~~x).toNat : Int) := by
  rw [un_nat k hk, hk]
  congr 2
  have : BitVec.ofInt k.bits (if false = true then -1 else k.max) = BitVec.allOnes k.bits := by
    simp only [Bool.false_eq_true, if_false, IntKind.max, hk]
    apply BitVec.eq_of_toNat_eq
    have h0 : 0 < 2 ^ k.bits := Nat.pow_pos (by decide)
    rw [BitVec.toNat_ofInt, BitVec.toNat_allOnes]
    have e : ((2 : Int) ^ k.bits - 1) = ((2 ^ k.bits - 1 : Nat) : Int) := by
      rw [Int.ofNat_sub h0]; push_cast; rfl
    rw [e]
    have e2 : (((2 ^ k.bits - 1 : Nat) : Int) % ((2 ^ k.bits : Nat) : Int)) = ((2 ^ k.bits - 1 : Nat) : Int) := Int.emod_eq_of_lt (by omega) (by omega)
    rw [e2]; simp
  rw [this]
  simp
/-- From a number with a sign. -/
theorem un_of (k : IntKind) (hk : k.signed = false) (n : Int) : k.wrap n = ((BitVec.ofInt k.bits n).toNat : Int) := wrap_un k hk n
/-- From another kind without a sign. -/
theorem un_un (k : IntKind) (hk : k.signed = false) (j : Nat) (x : BitVec j) : k.wrap (x.toNat : Int) = ((x.setWidth k.bits).toNat : Int) := by
  rw [wrap_un k hk]
  congr 1
  rw [BitVec.toNat_ofInt, BitVec.toNat_setWidth]
  have e : ((x.toNat : Int) % ((2 ^ k.bits : Nat) : Int)) = ((x.toNat % 2 ^ k.bits : Nat) : Int) := by push_cast; rfl
  rw [e, Int.toNat_natCast]
/-- To a number with a sign. -/
theorem int_un (j : Nat) (hj : j < 64) (x : BitVec j) : IntKind.wrap .i64 (x.toNat : Int) = (x.toNat : Int) := by
  have h := x.isLt
  have : 2 ^ j ≤ 2 ^ 63 := Nat.pow_le_pow_right (by decide) (by omega)
  have e : (2 : Nat) ^ 63 = 9223372036854775808 := by decide
  exact wrap64 (by omega) (by omega)
theorem int_u64 (x : BitVec 64) : IntKind.wrap .i64 (x.toNat : Int) = x.toInt := by
  rw [wrap_i64, BitVec.toInt_eq_toNat_cond]
  have h : x.toNat < 18446744073709551616 := x.isLt
  have e : (2 : Nat) ^ 64 = 18446744073709551616 := by decide
  rw [e]
  split <;> split <;> omega
section
variable {n : Nat} (x y : BitVec n)
theorem un_eql : ((x.toNat : Int) == y.toNat) = (x == y) := by
  rw [Bool.eq_iff_iff]
  simp only [beq_iff_eq, Int.natCast_inj]
  exact BitVec.toNat_inj
theorem un_neq : ((x.toNat : Int) != y.toNat) = (x != y) := by
  unfold bne; rw [un_eql]
theorem un_lss : decide ((x.toNat : Int) < y.toNat) = decide (x < y) := by
  rw [Bool.eq_iff_iff]; simp [BitVec.lt_def]
theorem un_leq : decide ((x.toNat : Int) ≤ y.toNat) = decide (x ≤ y) := by
  rw [Bool.eq_iff_iff]; simp [BitVec.le_def]
theorem un_gtr : decide ((x.toNat : Int) > y.toNat) = decide (y < x) := un_lss y x
theorem un_geq : decide ((x.toNat : Int) ≥ y.toNat) = decide (y ≤ x) := un_leq y x
end
theorem eff_int {k : IntKind} {a b : Int} (h : a = b) : ({ val := .pv (.int k a) } : Eff) = { val := .pv (.int k b) } := by rw [h]
theorem eff_bool {a b : Bool} (h : a = b) : ({ val := .pv (.bool a) } : Eff) = { val := .pv (.bool b) } := by rw [h]
/-- A string's byte. -/
def byteAt (s : ByteArray) (i : Nat) : BitVec 8 := (s[i]!).toBitVec
theorem whole_ok (n : Nat) : (decide (n = n) && decide (0 = 0)) = true := by simp
theorem lt_of {i : Int} {n : Nat} (h0 : decide ((0 : Int) ≤ i) = true) (h : decide (i < ((n : Nat) : Int)) = true) : i.toNat < n := by
  simp only [decide_eq_true_eq] at h0 h
  omega
theorem lt_lit {i : Int} {n : Nat} (h0 : (0 : Int) ≤ i) (h : decide (i < ((n : Nat) : Int)) = true) : i.toNat < n := lt_of (decide_eq_true h0) h
/-! ### short words -/
theorem nd1 {R : Type} {c : Bool} {a : Option R} {r : R} (h : (if c = true then a else none) = some r) : c = true ∧ a = some r := need_of h
theorem nd2 {R : Type} {c d : Bool} {a : Option R} {r : R} (h : (if c = true then if d = true then a else none else none) = some r) : c = true ∧ d = true ∧ a = some r := ⟨(need_of h).1, need_of (need_of h).2⟩
theorem nd3 {R : Type} {c d e : Bool} {a : Option R} {r : R} (h : (if c = true then if d = true then if e = true then a else none else none else none) = some r) : c = true ∧ d = true ∧ e = true ∧ a = some r := ⟨(need_of h).1, nd2 (need_of h).2⟩
theorem nd4 {R : Type} {c d e f : Bool} {a : Option R} {r : R} (h : (if c = true then if d = true then if e = true then if f = true then a else none else none else none else none) = some r) : c = true ∧ d = true ∧ e = true ∧ f = true ∧ a = some r := ⟨(need_of h).1, nd3 (need_of h).2⟩
theorem nd5 {R : Type} {c d e f g : Bool} {a : Option R} {r : R} (h : (if c = true then if d = true then if e = true then if f = true then if g = true then a else none else none else none else none else none) = some r) : c = true ∧ d = true ∧ e = true ∧ f = true ∧ g = true ∧ a = some r := ⟨(need_of h).1, nd4 (need_of h).2⟩
theorem nd6 {R : Type} {c d e f g i : Bool} {a : Option R} {r : R} (h : (if c = true then if d = true then if e = true then if f = true then if g = true then if i = true then a else none else none else none else none else none else none) = some r) : c = true ∧ d = true ∧ e = true ∧ f = true ∧ g = true ∧ i = true ∧ a = some r := ⟨(need_of h).1, nd5 (need_of h).2⟩
theorem kr.{u} {α : Sort u} {a b : α} (h : a = b := by kernel_rfl) : a = b := h
theorem bd {p : Prop} (h : p := by first | exact Nat.le_refl _ | exact Nat.zero_le _ | assumption | (simp only [addN_eq, decide_eq_true_eq, List.length_set, List.length_append, List.length_replicate, List.length_cons, List.length_nil, Nat.zero_add] at * <;> omega)) : p := h
/-- A path in code, as a number. -/
def bitsL : Nat → Nat → List Nat
  | 0, _ => []
  | k + 1, n => (n % 2) :: bitsL k (n / 2)
def cd (P : Program) (f : FuncId) (k n : Nat) : Code := sub (codeOf P f) (bitsL k n)
/-! ### by fuel -/
def Le {α : Type} (x y : Option α) : Prop := ∀ r, x = some r → y = some r
theorem Le.refl {α : Type} (x : Option α) : Le x x := fun _ h => h
theorem Le.none {α : Type} (y : Option α) : Le none y := fun _ h => by cases h
theorem Le.bind {α β : Type} {x y : Option α} {k k' : α → Option β} (h : Le x y) (hk : ∀ v, Le (k v) (k' v)) : Le (x >>= k) (y >>= k') := fun r hr => by
  obtain ⟨v, h1, h2⟩ := bind_of hr
  show (y >>= k') = some r
  rw [h v h1]
  exact hk v r h2
theorem Le.ite {α : Type} {c : Prop} [Decidable c] {a b a' b' : Option α} (h1 : Le a a') (h2 : Le b b') : Le (if c then a else b) (if c then a' else b') := fun r hr => by
  by_cases hc : c
  · rw [if_pos hc] at hr ⊢; exact h1 r hr
  · rw [if_neg hc] at hr ⊢; exact h2 r hr
end Go.Bm
