/- Plain Lean: what may live behind any node is the document's (MayBehind). -/
import Derived.Test.YtldkmmnffjdliaaT1
import Derived.Test.YtldkmmnffjdliaaAmBits
namespace Go.Am.GoYtldkmmnffjdliaa
open Go.Am
set_option autoImplicit false
set_option linter.unusedVariables false
set_option linter.unusedSimpArgs false

theorem go68_is (F : Nat) (i : Int) : go68 F i = some ((oneB i : Nat) : Int) := by
  unfold go68 oneB
  by_cases h1 : i < 0
  · simp [h1, show ¬ (0 ≤ i ∧ i < 32) by omega]
  · by_cases h2 : i ≥ 32
    · simp [h1, h2, show ¬ (0 ≤ i ∧ i < 32) by omega]
    · have h3 : 0 ≤ i := by omega
      have e : i = ((i.toNat : Nat) : Int) := by omega
      have h4 : i < 32 := by omega
      simp only [h1, h2, h3, h4, decide_true, decide_false, if_true, if_false, Bool.false_eq_true, and_self]
      obtain ⟨m, rfl⟩ := Int.eq_ofNat_of_zero_le h3
      rw [wShl_one _ (by omega)]
      simp

theorem go69_is (F : Nat) (x : Nat) (hx : x < 2 ^ 32) (i : Int) : go69 F x i = some (hasB x i) := by
  unfold go69 hasB
  by_cases h1 : i ≥ 0
  · by_cases h2 : i < 32
    · have e : i = ((i.toNat : Nat) : Int) := by omega
      have h3 : 0 ≤ i := by omega
      simp only [h1, h2, h3, decide_true, if_true, Bool.true_and]
      obtain ⟨m, rfl⟩ := Int.eq_ofNat_of_zero_le h3
      rw [wShr_nat _ _ (by omega), low_bit _ (Nat.lt_of_le_of_lt (Nat.div_le_self _ _) hx), shr_bit]
      simp
    · simp [h1, h2]
  · simp [h1]

theorem l52_is (F : Nat) (x : Nat) (hx : x < 2 ^ 64) : ∀ (d j n : Nat), d < n → d + j < 2 ^ 62 → go52_l5 F n ((d + j : Nat) : Int) ((x / 2 ^ j : Nat) : Int) (j : Int) = some (.x0 ((x / 2 ^ (d + j) : Nat) : Int)) := by
  intro d
  induction d with
  | zero =>
    intro j n hn hb
    cases n with
    | zero => omega
    | succ n =>
      unfold go52_l5
      rw [if_neg (by simp), Nat.zero_add]
  | succ d ih =>
    intro j n hn hb
    cases n with
    | zero => omega
    | succ n =>
      unfold go52_l5
      have : (j : Int) < ((d + 1 + j : Nat) : Int) := by omega
      rw [if_pos (by simpa using this), wQuo_two _ (Nat.lt_of_le_of_lt (Nat.div_le_self _ _) hx), wAdd64 _ _ (by omega), Nat.div_div_eq_div_mul, ← Nat.pow_succ]
      have := ih (j + 1) n (by omega) (by omega)
      rw [show d + (j + 1) = d + 1 + j by omega] at this
      exact this

theorem go52_is (F : Nat) (hF : 40 ≤ F) (x : Nat) (hx : x < 2 ^ 32) (i : Int) : go52 F x i = some (hasB x i) := by
  unfold go52 hasB
  by_cases h1 : i < 0
  · simp [h1, show ¬ 0 ≤ i by omega]
  · by_cases h2 : i > 31
    · simp [h1, h2, show ¬ i < 32 by omega]
    · have e : i = ((i.toNat : Nat) : Int) := by omega
      have h3 : 0 ≤ i := by omega
      have h4 : i < 32 := by omega
      simp only [h1, h2, h3, h4, decide_true, decide_false, if_false, Bool.false_eq_true, Bool.true_and]
      rw [u64_nat _ (by omega)]
      have := l52_is F x (by omega) i.toNat 0 F (by omega) (by omega)
      simp only [Nat.add_zero, Nat.pow_zero, Nat.div_one] at this
      rw [e]
      rw [show ((0 : Nat) : Int) = 0 from rfl] at this
      rw [this]
      simp only [Option.bind_some, Int.toNat_natCast]
      rw [tmod_bit, shr_bit]

/-- What the program answers. -/
def behindP (n : G22) (x y : Nat) (lost : Int) (b : Bool) : Nat :=
  if n.kind = 5 then (if b = true ∨ hasB x n.alt = true then (x ||| oneB n.alt) ||| oneB lost else x ||| oneB n.alt)
  else if n.kind = 6 then without x (oneB n.arg)
  else if n.kind = 7 then y else x
/-- What the document says. -/
def behindR (n : G22) (x y : Nat) (lost : Int) (b : Bool) (id : Int) : Bool :=
  if n.kind = 5 then hasB x id || decide (id = n.alt) || (decide (id = lost) && (b || hasB x n.alt))
  else if n.kind = 6 then hasB x id && decide (id ≠ n.arg)
  else if n.kind = 7 then hasB y id else hasB x id

theorem go27_is (F : Nat) (n : G22) (x y : Nat) (hx : x < 2 ^ 32) (lost : Int) (b : Bool) : go27 F n x y lost b = some ((behindP n x y lost b : Nat) : Int) := by
  unfold go27 behindP
  have o1 := oneB_lt n.alt
  have o2 := oneB_lt lost
  have o3 := oneB_lt n.arg
  by_cases h5 : n.kind = 5
  · simp only [h5, beq_self_eq_true, if_true, go68_is, Option.bind_some, go69_is F x hx]
    cases b with
    | true => simp [wOr_nat _ _ hx o1, wOr_nat _ _ (Nat.or_lt_two_pow hx o1) o2]
    | false =>
      cases hb : hasB x n.alt
      · simp [wOr_nat _ _ hx o1]
      · simp [wOr_nat _ _ hx o1, wOr_nat _ _ (Nat.or_lt_two_pow hx o1) o2]
  · by_cases h6 : n.kind = 6
    · simp [h6, go68_is, wAndNot_nat _ _ hx o3]
    · by_cases h7 : n.kind = 7
      · simp [h7]
      · simp [h5, h6, h7]

theorem go26_is (F : Nat) (hF : 40 ≤ F) (n : G22) (x y : Nat) (hx : x < 2 ^ 32) (hy : y < 2 ^ 32) (lost : Int) (b : Bool) (id : Int) : go26 F n x y lost b id = some (behindR n x y lost b id) := by
  unfold go26 behindR
  simp only [go52_is F hF x hx, go52_is F hF y hy, Option.bind_some]
  by_cases h5 : n.kind = 5
  · simp only [h5, beq_self_eq_true, if_true]
    cases hasB x id <;> cases b <;> by_cases ha : id = n.alt <;> by_cases hl : id = lost <;> simp [ha, hl]
    all_goals first | (subst ha; simp_all; done) | simp_all
  · by_cases h6 : n.kind = 6
    · simp only [h6, beq_self_eq_true, if_true]
      cases hasB x id <;> by_cases ha : id = n.arg <;> simp [ha]
    · by_cases h7 : n.kind = 7
      · simp [h7]
      · simp [h5, h6, h7]

theorem behind_lt (n : G22) (x y : Nat) (hx : x < 2 ^ 32) (hy : y < 2 ^ 32) (lost : Int) (b : Bool) : behindP n x y lost b < 2 ^ 32 := by
  unfold behindP
  split
  · split
    · exact Nat.or_lt_two_pow (Nat.or_lt_two_pow hx (oneB_lt _)) (oneB_lt _)
    · exact Nat.or_lt_two_pow hx (oneB_lt _)
  · split
    · exact without_lt _ _
    · split <;> assumption

theorem behind_bit (n : G22) (x y : Nat) (hx : x < 2 ^ 32) (hy : y < 2 ^ 32) (lost : Int) (b : Bool) (k : Nat) (hk : k < 32) : (behindP n x y lost b).testBit k = behindR n x y lost b k := by
  unfold behindP behindR
  by_cases h5 : n.kind = 5
  · simp only [h5, if_true, hasB_nat _ _ hk]
    cases b <;> cases hb : hasB x n.alt <;> simp [Nat.testBit_or, oneB_bit _ _ hk]
  · by_cases h6 : n.kind = 6
    · simp [h6, hasB_nat _ _ hk, without_bit _ _ _ hk hx (oneB_lt _), oneB_bit _ _ hk]
    · by_cases h7 : n.kind = 7
      · simp [h7, hasB_nat _ _ hk]
      · simp [h5, h6, h7, hasB_nat _ _ hk]

/-! ### the mask of a list of ids -/
def mk (p : Nat → Bool) : Nat → Nat
  | 0 => 0
  | m + 1 => if p m = true then 2 ^ m + mk p m else mk p m
theorem mk_lt (p : Nat → Bool) : ∀ m, mk p m < 2 ^ m
  | 0 => by simp [mk]
  | m + 1 => by
    have := mk_lt p m
    unfold mk
    rw [Nat.pow_succ]
    split <;> omega
theorem mk_bit (p : Nat → Bool) (k : Nat) : ∀ m, (mk p m).testBit k = (decide (k < m) && p k)
  | 0 => by simp [mk]
  | m + 1 => by
    have ih := mk_bit p k m
    have hlt := mk_lt p m
    unfold mk
    by_cases hp : p m = true
    · rw [if_pos hp]
      have e : 2 ^ m + mk p m = 2 ^ m ||| mk p m := by
        have := Nat.two_pow_add_eq_or_of_lt hlt 1
        simpa using this
      rw [e, Nat.testBit_or, ih, Nat.testBit_two_pow]
      by_cases hk : m = k
      · subst hk; simp [hp]
      · by_cases h2 : k < m
        · simp [h2, hk, show k < m + 1 by omega]
        · simp [h2, hk, show ¬ k < m + 1 by omega]
    · rw [if_neg hp, ih]
      by_cases hk : k = m
      · subst hk; simp [hp]
      · by_cases h2 : k < m
        · simp [h2, show k < m + 1 by omega]
        · simp [h2, show ¬ k < m + 1 by omega]

def ints (l : List Nat) : List Int := List.map (fun (k : Nat) => (k : Int)) l
def sumL : List Nat → Nat
  | [] => 0
  | k :: l => 2 ^ k + sumL l
theorem sumL_append : ∀ (a b : List Nat), sumL (a ++ b) = sumL a + sumL b
  | [], b => by simp [sumL]
  | k :: a, b => by simp only [List.cons_append, sumL, sumL_append a b]; omega
theorem sumL_mk (p : Nat → Bool) : ∀ m, sumL ((List.range m).filter p) = mk p m
  | 0 => rfl
  | m + 1 => by
    rw [List.range_succ, List.filter_append, sumL_append, sumL_mk p m]
    cases hp : p m
    · simp [List.filter, hp, sumL, mk]
    · simp [List.filter, hp, sumL, mk]; omega

theorem getD_ints (l : List Nat) (j : Nat) (hj : j < l.length) : List.getD (ints l) (Int.toNat (j : Int)) 0 = ((l[j] : Nat) : Int) := by
  simp [ints, List.getD, hj]

theorem l7_is (F : Nat) (l : List Nat) (acc : Int) (j : Nat) (hj : j < l.length) (hk : l[j] < 60) : ∀ (d k n : Nat), d + k = l[j] → d < n →
    go28_l7 F n (ints l) acc j ((2 ^ k : Nat) : Int) (k : Int) = some (.x0 (ints l) acc j ((2 ^ l[j] : Nat) : Int)) := by
  intro d
  induction d with
  | zero =>
    intro k n hd hn
    cases n with
    | zero => omega
    | succ n =>
      unfold go28_l7
      have hlen : (ints l).length = l.length := by simp [ints]
      rw [if_pos (by simp), if_pos (by rw [hlen]; simp; omega), getD_ints l j hj, if_neg (by simp; omega)]
      have : k = l[j] := by omega
      rw [this]
  | succ d ih =>
    intro k n hd hn
    cases n with
    | zero => omega
    | succ n =>
      unfold go28_l7
      have hlen : (ints l).length = l.length := by simp [ints]
      rw [if_pos (by simp), if_pos (by rw [hlen]; simp; omega), getD_ints l j hj, if_pos (by simp; omega)]
      have e1 : wMul .u64 ((2 ^ k : Nat) : Int) 2 = ((2 ^ (k + 1) : Nat) : Int) := by
        show IntKind.wrap .u64 (((2 ^ k : Nat) : Int) * 2) = _
        have h2 : 2 ^ (k + 1) < 2 ^ 64 := Nat.pow_lt_pow_right (by omega) (by omega)
        rw [show ((2 ^ k : Nat) : Int) * 2 = ((2 ^ (k + 1) : Nat) : Int) by rw [Nat.pow_succ]; omega]
        exact u64_nat _ h2
      rw [e1, wAdd64 _ _ (by omega)]
      exact ih (k + 1) n (by omega) (by omega)

theorem l3_is (F : Nat) (hF : 70 ≤ F) (l : List Nat) (hl : ∀ k ∈ l, k < 60) (hlen : l.length < 2 ^ 60) : ∀ (d j n acc : Nat), d + j = l.length → d < n → acc + sumL (l.drop j) < 2 ^ 64 →
    go28_l3 F n (ints l) (acc : Int) (j : Int) = some (.x0 ((acc + sumL (l.drop j) : Nat) : Int)) := by
  have hlen' : (ints l).length = l.length := by simp [ints]
  intro d
  induction d with
  | zero =>
    intro j n acc hd hn hs
    cases n with
    | zero => omega
    | succ n =>
      unfold go28_l3
      rw [if_neg (by rw [hlen']; simp; omega), List.drop_eq_nil_of_le (by omega)]
      simp [sumL]
  | succ d ih =>
    intro j n acc hd hn hs
    cases n with
    | zero => omega
    | succ n =>
      unfold go28_l3
      have hj : j < l.length := by omega
      have hk : l[j] < 60 := hl _ (List.getElem_mem hj)
      rw [if_pos (by rw [hlen']; simp; omega)]
      have h7 := l7_is F l acc j hj hk l[j] 0 F (by omega) (by omega)
      rw [show ((2 ^ 0 : Nat) : Int) = 1 from rfl, show ((0 : Nat) : Int) = 0 from rfl] at h7
      rw [h7]
      simp only [Option.bind_some]
      rw [List.drop_eq_getElem_cons hj] at hs ⊢
      simp only [sumL] at hs ⊢
      have e1 : wAdd .u64 (acc : Int) ((2 ^ l[j] : Nat) : Int) = ((acc + 2 ^ l[j] : Nat) : Int) := by
        show IntKind.wrap .u64 ((acc : Int) + ((2 ^ l[j] : Nat) : Int)) = _
        rw [← Int.natCast_add]
        exact u64_nat _ (by omega)
      rw [e1, wAdd64 _ _ (by omega)]
      have := ih (j + 1) n (acc + 2 ^ l[j]) (by omega) (by omega) (by omega)
      rw [show ((j : Int) + 1) = ((j + 1 : Nat) : Int) by omega, this]
      congr 3
      omega

theorem go28_is (F : Nat) (hF : 70 ≤ F) (l : List Nat) (hl : ∀ k ∈ l, k < 60) (hlen : l.length < F) (hlen2 : l.length < 2 ^ 60) (hs : sumL l < 2 ^ 32) : go28 F (ints l) = some ((sumL l : Nat) : Int) := by
  unfold go28
  have := l3_is F hF l hl hlen2 l.length 0 F 0 (by omega) hlen (by simp; omega)
  simp only [List.drop_zero, Nat.zero_add] at this
  rw [show ((0 : Nat) : Int) = 0 from rfl] at this
  rw [this]
  simp only [Option.bind_some]
  rw [u32_nat _ hs]

/-! ### the law -/
theorem l5_is (F : Nat) (hF : 40 ≤ F) (nd : G22) (x y : Nat) (hx : x < 2 ^ 32) (hy : y < 2 ^ 32) (lost : Int) (b : Bool) (i : Int) : ∀ (d j n : Nat), d + j = 32 → d < n →
    go3_l5 F n x y lost b i (ints ((List.range j).filter fun k => behindR nd x y lost b k)) (j : Int) nd.kind nd.arg nd.next nd.alt =
      some (.x0 x y lost b i (ints ((List.range 32).filter fun k => behindR nd x y lost b k)) nd.kind nd.arg nd.next nd.alt) := by
  intro d
  induction d with
  | zero =>
    intro j n hd hn
    cases n with
    | zero => omega
    | succ n =>
      have : j = 32 := by omega
      subst this
      unfold go3_l5
      rw [if_neg (by simp)]
  | succ d ih =>
    intro j n hd hn
    cases n with
    | zero => omega
    | succ n =>
      unfold go3_l5
      rw [if_pos (by simp; omega)]
      have h26 := go26_is F hF nd x y hx hy lost b (j : Int)
      rw [show (⟨nd.kind, nd.arg, nd.next, nd.alt⟩ : G22) = nd from rfl, h26]
      simp only [Option.bind_some]
      have hlen : (ints ((List.range j).filter fun k => behindR nd x y lost b k)).length ≤ 32 := by
        have := List.length_filter_le (fun k => behindR nd x y lost b (k : Nat)) (List.range j)
        simp [ints] at this ⊢
        omega
      have ih' := ih (j + 1) n (by omega) (by omega)
      rw [wAdd64 _ _ (by omega), show ((j : Int) + 1) = ((j + 1 : Nat) : Int) by omega]
      have hr : (List.range (j + 1)).filter (fun k => behindR nd x y lost b (k : Nat)) = (List.range j).filter (fun k => behindR nd x y lost b (k : Nat)) ++ (if behindR nd x y lost b (j : Int) = true then [j] else []) := by
        rw [List.range_succ, List.filter_append]
        congr 1
        cases hb : behindR nd x y lost b (j : Int) <;> simp [List.filter, hb]
      rw [hr] at ih'
      cases hb : behindR nd x y lost b (j : Int) with
      | true =>
        rw [if_pos rfl, if_pos]
        · rw [hb, if_pos rfl] at ih'
          have : ints ((List.range j).filter (fun k => behindR nd x y lost b (k : Nat)) ++ [j]) = ints ((List.range j).filter fun k => behindR nd x y lost b (k : Nat)) ++ [(j : Int)] := by simp [ints]
          rw [this] at ih'
          exact ih'
        · apply Nat.ble_eq_true_of_le
          have : reach = 140737488351232 := rfl
          simp only [List.length_cons, List.length_nil]
          omega
      | false =>
        rw [if_neg (by simp)]
        rw [hb] at ih'
        simpa using ih'

theorem go25_is (F : Nat) : go25 F = some true := by
  unfold go25
  have := go27_is F ⟨5, 0, 0, 1⟩ 0 0 (by decide) 2 false
  rw [show ((0 : Nat) : Int) = 0 from rfl] at this
  rw [this]
  rfl

theorem go29_is (F : Nat) (x y : Nat) (i : Int) : go29 F ⟨0, 0, [], 0, 0, [(x : Int), (y : Int), 0]⟩ i = some (decide (0 ≤ i ∧ i < 3) && decide (List.getD [(x : Int), (y : Int), 0] i.toNat 0 = 0)) := by
  unfold go29
  by_cases h1 : 0 ≤ i
  · by_cases h2 : i < 3
    · simp [h1, h2]
      rfl
    · simp [h1, h2]
  · simp [h1]

theorem law (a0 : G22) (x y : Nat) (hx : x < 2 ^ 32) (hy : y < 2 ^ 32) (lost : Int) (b : Bool) (i : Int) : go3 100 a0 x y lost b i = some true := by
  unfold go3
  rw [go25_is]
  simp only [Option.bind_some, Bool.not_true, Bool.false_eq_true, if_false]
  have h5 := l5_is 100 (by decide) a0 x y hx hy lost b i 32 0 100 (by decide) (by decide)
  rw [show ints ((List.range 0).filter fun k => behindR a0 x y lost b (k : Nat)) = [] from rfl, show ((0 : Nat) : Int) = 0 from rfl] at h5
  rw [h5]
  simp only [Option.bind_some]
  have h27 := go27_is 100 a0 x y hx lost b
  have hsum : sumL ((List.range 32).filter fun k => behindR a0 x y lost b (k : Nat)) = behindP a0 x y lost b := by
    rw [sumL_mk]
    refine bits_ext _ _ (mk_lt _ 32) (behind_lt a0 x y hx hy lost b) fun k hk => ?_
    rw [mk_bit, behind_bit a0 x y hx hy lost b k hk]
    simp [hk]
  have hlt := behind_lt a0 x y hx hy lost b
  have h28 := go28_is 100 (by decide) ((List.range 32).filter fun k => behindR a0 x y lost b (k : Nat)) (fun k hk => by
    have := List.mem_range.1 (List.mem_filter.1 hk).1
    omega) (by
      have := List.length_filter_le (fun k => behindR a0 x y lost b (k : Nat)) (List.range 32)
      simp at this
      omega) (by
      have := List.length_filter_le (fun k => behindR a0 x y lost b (k : Nat)) (List.range 32)
      simp at this
      omega) (by rw [hsum]; exact hlt)
  rw [hsum] at h28
  rw [show (⟨a0.kind, a0.arg, a0.next, a0.alt⟩ : G22) = a0 from rfl, h27, h28]
  simp only [Option.bind_some, beq_self_eq_true, if_true, go29_is]
  by_cases i0 : i = 0
  · subst i0
    by_cases hx0 : x = 0
    · simp [hx0]
    · simp [hx0]
  · by_cases i1 : i = 1
    · subst i1
      by_cases hy0 : y = 0
      · simp [hy0]
      · simp [hy0]
    · by_cases i2 : i = 2
      · subst i2
        simp
      · have : ¬ (0 ≤ i ∧ i < 3) := by omega
        simp [i0, i1, i2, this]
end Go.Am.GoYtldkmmnffjdliaa
