/- Sets of ids as masks: single ids, counts, the document's masks. -/
import Derived.Test.YtldkmmnffjdliaaGLawCheck5
namespace Go.Bm.GoYtldkmmnffjdliaa
set_option autoImplicit false
set_option linter.unusedVariables false
set_option linter.unusedSimpArgs false
set_option maxRecDepth 100000
abbrev W32 := BitVec 32
theorem ext32 {a b : W32} (h : ∀ i, i < 32 → (a.getLsbD i = true ↔ b.getLsbD i = true)) : a = b := by
  apply BitVec.eq_of_getLsbD_eq
  intro i hi
  rw [Bool.eq_iff_iff]
  exact h i hi
theorem bit_lt {a : W32} {i : Nat} (h : a.getLsbD i = true) : i < 32 := by
  rcases Nat.lt_or_ge i 32 with h1 | h1
  · exact h1
  · rw [BitVec.getLsbD_of_ge _ _ h1] at h; cases h
theorem ne_zero_iff {a : W32} : a ≠ 0#32 ↔ ∃ i, a.getLsbD i = true := by
  constructor
  · intro h
    apply Classical.byContradiction
    intro hn
    exact h (ext32 fun i _ => ⟨fun hi => absurd ⟨i, hi⟩ hn, fun hi => by simp at hi⟩)
  · rintro ⟨i, hi⟩ rfl
    simp at hi
/-- The set of an id. -/
def one (id : Int) : W32 := if 0 ≤ id ∧ id < 32 then (1#32) <<< id.toNat else 0#32
theorem one_eq (id : Int) : sets_One id = some (one id) := by
  unfold sets_One one
  by_cases h0 : id < 0
  · rw [if_pos (decide_eq_true h0), if_neg (by omega)]
  · rw [if_neg (by simpa using h0)]
    by_cases h1 : id ≥ 32
    · rw [if_pos (decide_eq_true h1), if_neg (by omega)]
    · rw [if_neg (by simpa using h1), if_pos (decide_eq_true (by omega)), if_pos (by omega)]
theorem one_bit (id : Int) (i : Nat) : (one id).getLsbD i = true ↔ id = (i : Int) ∧ i < 32 := by
  unfold one
  split
  · rename_i h
    simp only [BitVec.getLsbD_shiftLeft, Bool.and_eq_true, decide_eq_true_eq, Bool.not_eq_true', decide_eq_false_iff_not, BitVec.getLsbD_one]
    omega
  · rename_i h
    simp
    omega
/-! ### which are named -/
theorem named_l3 (k : Int) (l : List api_Node) (hl : l.length ≤ 65536) : ∀ (m i : Nat) (x : W32), i + m = l.length → ∃ x', graph_named_l3 k x l (l.length : Int) (i : Int) = some x' ∧ ∀ b, x'.getLsbD b = true ↔ x.getLsbD b = true ∨ (b < 32 ∧ ∃ j, i ≤ j ∧ j < l.length ∧ (List.getD l j d_api_Node).kind = k ∧ (List.getD l j d_api_Node).arg = (b : Int))
  | 0, i, x, h => by
    rw [graph_named_l3, if_neg (by simp only [decide_eq_true_eq]; omega)]
    exact ⟨x, rfl, fun b => ⟨.inl, fun h => h.elim id fun ⟨_, j, h1, h2, _⟩ => by omega⟩⟩
  | m + 1, i, x, h => by
    rw [graph_named_l3, if_pos (decide_eq_true (by omega)), if_pos (decide_eq_true (by omega)), if_pos (decide_eq_true (by omega)), Int.toNat_natCast, inc i (by omega)]
    by_cases hk : (List.getD l i d_api_Node).kind = k
    · rw [if_pos (eqT hk), bind_some (one_eq _)]
      obtain ⟨x', q1, q2⟩ := named_l3 k l hl m (i + 1) (x ||| one (List.getD l i d_api_Node).arg) (by omega)
      refine ⟨x', q1, fun b => ?_⟩
      rw [q2, BitVec.getLsbD_or, Bool.or_eq_true, one_bit]
      constructor
      · rintro ((h1 | ⟨h1, h2⟩) | ⟨h1, j, h2, h3⟩)
        · exact .inl h1
        · exact .inr ⟨h2, i, Nat.le_refl _, by omega, hk, h1⟩
        · exact .inr ⟨h1, j, by omega, h3⟩
      · rintro (h1 | ⟨h1, j, h2, h3, h4, h5⟩)
        · exact .inl (.inl h1)
        · rcases Nat.eq_or_lt_of_le h2 with rfl | h6
          · exact .inl (.inr ⟨h5, h1⟩)
          · exact .inr ⟨h1, j, h6, h3, h4, h5⟩
    · rw [if_neg (eqF hk)]
      obtain ⟨x', q1, q2⟩ := named_l3 k l hl m (i + 1) x (by omega)
      refine ⟨x', q1, fun b => ?_⟩
      rw [q2]
      constructor
      · rintro (h1 | ⟨h1, j, h2, h3⟩)
        · exact .inl h1
        · exact .inr ⟨h1, j, by omega, h3⟩
      · rintro (h1 | ⟨h1, j, h2, h3, h4, h5⟩)
        · exact .inl h1
        · rcases Nat.eq_or_lt_of_le h2 with rfl | h6
          · exact absurd h4 hk
          · exact .inr ⟨h1, j, h6, h3, h4, h5⟩
theorem named_eq (l : List api_Node) (k : Int) (hl : l.length ≤ 65536) : ∃ x, graph_named l k = some x ∧ ∀ b, x.getLsbD b = true ↔ b < 32 ∧ ∃ j, j < l.length ∧ (List.getD l j d_api_Node).kind = k ∧ (List.getD l j d_api_Node).arg = (b : Int) := by
  obtain ⟨x, q1, q2⟩ := named_l3 k l hl l.length 0 0#32 (by omega)
  rw [show ((0 : Nat) : Int) = 0 from rfl] at q1
  unfold graph_named
  rw [bind_some q1]
  exact ⟨x, rfl, fun b => by rw [q2]; simp⟩
theorem getD_snoc' {α : Type} (t : List α) (x d : α) (a : Nat) : List.getD (t ++ [x]) a d = if a = t.length then x else List.getD t a d := getD_snoc t x d a
theorem callees_l3 (fs : FS) (hn : fs.length ≤ 65536) (hlen : ∀ f, (List.getD fs f []).length ≤ 65536) : ∀ (m f : Nat) (t : List W32), f + m = fs.length → t.length = f → (∀ x b, x < f → ((List.getD t x 0#32).getLsbD b = true ↔ b < 32 ∧ Edge fs x b)) →
    ∃ t', graph_Callees_l3 t fs (fs.length : Int) (f : Int) = some t' ∧ t'.length = fs.length ∧ ∀ x b, x < fs.length → ((List.getD t' x 0#32).getLsbD b = true ↔ b < 32 ∧ Edge fs x b)
  | 0, f, t, h, h1, h2 => by
    rw [graph_Callees_l3, if_neg (by simp only [decide_eq_true_eq]; omega)]
    exact ⟨t, rfl, by omega, fun x b hx => h2 x b (by omega)⟩
  | m + 1, f, t, h, h1, h2 => by
    obtain ⟨x, q1, q2⟩ := named_eq (List.getD fs f []) 7 (hlen f)
    rw [graph_Callees_l3, if_pos (decide_eq_true (by omega)), if_pos (decide_eq_true (by omega)), if_pos (decide_eq_true (by omega)), Int.toNat_natCast, bind_some q1, if_pos (Nat.ble_eq_true_of_le (by simp only [List.length_singleton, reach]; omega)), inc f (by omega)]
    refine callees_l3 fs hn hlen m (f + 1) (t ++ [x]) (by omega) (by simp [h1]) fun y b hy => ?_
    rw [getD_snoc]
    split
    · rename_i e
      rw [q2]
      have : y = f := by omega
      subst this
      exact Iff.rfl
    · exact h2 y b (by omega)
theorem callees_eq (p : api_Program) (hn : p.funcs.length ≤ 65536) (hlen : ∀ f, (List.getD p.funcs f []).length ≤ 65536) : ∃ t, graph_Callees p = some t ∧ t.length = p.funcs.length ∧ ∀ x b, x < p.funcs.length → ((List.getD t x 0#32).getLsbD b = true ↔ b < 32 ∧ Edge p.funcs x b) := by
  obtain ⟨t, q1, q2⟩ := callees_l3 p.funcs hn hlen p.funcs.length 0 [] (by omega) rfl (fun x b hx => by omega)
  rw [show ((0 : Nat) : Int) = 0 from rfl] at q1
  unfold graph_Callees
  rw [bind_some q1]
  exact ⟨t, rfl, q2⟩
/-! ### how many -/
def bsum (f : Nat → Bool) : Nat → Nat
  | 0 => 0
  | n + 1 => bsum f n + (f n).toNat
theorem bsum_congr {f g : Nat → Bool} : ∀ {n : Nat}, (∀ i, i < n → f i = g i) → bsum f n = bsum g n
  | 0, _ => rfl
  | n + 1, h => by
    show bsum f n + (f n).toNat = bsum g n + (g n).toNat
    rw [bsum_congr fun i hi => h i (by omega), h n (by omega)]
theorem bsum_le (f : Nat → Bool) : ∀ n, bsum f n ≤ n
  | 0 => Nat.le_refl _
  | n + 1 => by
    have := bsum_le f n
    show bsum f n + (f n).toNat ≤ n + 1
    have : (f n).toNat ≤ 1 := Bool.toNat_le _
    omega
theorem bsum_zero {f : Nat → Bool} : ∀ {n : Nat}, bsum f n = 0 ↔ ∀ i, i < n → f i = false
  | 0 => ⟨fun _ i hi => by omega, fun _ => rfl⟩
  | n + 1 => by
    show bsum f n + (f n).toNat = 0 ↔ _
    constructor
    · intro h i hi
      have h1 : bsum f n = 0 := by omega
      have h2 : (f n).toNat = 0 := by omega
      by_cases hin : i = n
      · subst hin; cases hf : f i with
        | false => rfl
        | true => rw [hf] at h2; cases h2
      · exact bsum_zero.1 h1 i (by omega)
    · intro h
      rw [bsum_zero.2 fun i hi => h i (by omega), h n (by omega)]
      rfl
/-- One less. -/
theorem bsum_clear {f g : Nat → Bool} {k : Nat} : ∀ {n : Nat}, k < n → f k = true → g k = false → (∀ i, i ≠ k → g i = f i) → bsum g n + 1 = bsum f n
  | 0, h, _, _, _ => by omega
  | n + 1, h, h1, h2, h3 => by
    show bsum g n + (g n).toNat + 1 = bsum f n + (f n).toNat
    by_cases hk : k = n
    · subst hk
      rw [bsum_congr (f := g) (g := f) fun i hi => h3 i (by omega), h1, h2]
      rfl
    · have := bsum_clear (n := n) (by omega) h1 h2 h3
      rw [h3 n (fun e => hk e.symm)]
      omega
theorem tab_all : ∀ v, v < 256 → (byteAt str_0 v).toNat = bsum (fun i => v.testBit i) 8 := by decide +kernel
theorem tab_size : ByteArray.size str_0 = 256 := by decide +kernel
theorem bsum_add (f : Nat → Bool) (n : Nat) : ∀ m, bsum f (n + m) = bsum f n + bsum (fun i => f (n + i)) m
  | 0 => rfl
  | m + 1 => by
    show bsum f (n + m) + (f (n + m)).toNat = bsum f n + (bsum (fun i => f (n + i)) m + (f (n + m)).toNat)
    rw [bsum_add f n m]
    omega
theorem ones_eq (x : W32) : math_bits_OnesCount32 x = some ((bsum (fun i => x.getLsbD i) 32 : Nat) : Int) := by
  unfold math_bits_OnesCount32
  have e24 : BitVec.toNat (24#64) = 24 := rfl
  have e16 : BitVec.toNat (16#64) = 16 := rfl
  have e8 : BitVec.toNat (8#64) = 8 := rfl
  rw [e24, e16, e8]
  have hb : ∀ (y : W32), (y &&& 255#32).toNat < 256 := fun y => by
    rw [BitVec.toNat_and]
    exact Nat.lt_of_le_of_lt Nat.and_le_right (by decide)
  have h24 : (x >>> 24).toNat < 256 := by
    rw [BitVec.toNat_ushiftRight, Nat.shiftRight_eq_div_pow]
    have := x.isLt
    omega
  have b24 : bsum (fun i => (x >>> 24).toNat.testBit i) 8 = bsum (fun i => x.getLsbD (24 + i)) 8 := bsum_congr fun i hi => by
    show (x >>> 24).getLsbD i = _
    rw [BitVec.getLsbD_ushiftRight]
  have b255 : ∀ (y : W32) i, i < 8 → (y &&& 255#32).toNat.testBit i = y.getLsbD i := fun y i hi => by
    show (y &&& 255#32).getLsbD i = _
    rw [BitVec.getLsbD_and]
    have : (255#32).getLsbD i = true := by
      have : ∀ i, i < 8 → (255#32).getLsbD i = true := by decide
      exact this i hi
    rw [this, Bool.and_true]
  have b16 : bsum (fun i => (x >>> 16 &&& 255#32).toNat.testBit i) 8 = bsum (fun i => x.getLsbD (16 + i)) 8 := bsum_congr fun i hi => by
    rw [b255 _ i hi, BitVec.getLsbD_ushiftRight]
  have b8 : bsum (fun i => (x >>> 8 &&& 255#32).toNat.testBit i) 8 = bsum (fun i => x.getLsbD (8 + i)) 8 := bsum_congr fun i hi => by
    rw [b255 _ i hi, BitVec.getLsbD_ushiftRight]
  have b0 : bsum (fun i => (x &&& 255#32).toNat.testBit i) 8 = bsum (fun i => x.getLsbD i) 8 := bsum_congr fun i hi => b255 _ i hi
  rw [tab_size, if_pos (decide_eq_true (by omega)), if_pos (decide_eq_true (by have := hb (x >>> 16); omega)), if_pos (decide_eq_true (by have := hb (x >>> 8); omega)), if_pos (decide_eq_true (by have := hb x; omega))]
  have t24 := tab_all _ h24
  have t16 := tab_all _ (hb (x >>> 16))
  have t8 := tab_all _ (hb (x >>> 8))
  have t0 := tab_all _ (hb x)
  rw [b24] at t24
  rw [b16] at t16
  rw [b8] at t8
  rw [b0] at t0
  have hs : bsum (fun i => x.getLsbD i) 32 = bsum (fun i => x.getLsbD i) 8 + bsum (fun i => x.getLsbD (8 + i)) 8 + bsum (fun i => x.getLsbD (16 + i)) 8 + bsum (fun i => x.getLsbD (24 + i)) 8 := by
    have h1 := bsum_add (fun i => x.getLsbD i) 24 8
    have h2 := bsum_add (fun i => x.getLsbD i) 16 8
    have h3 := bsum_add (fun i => x.getLsbD i) 8 8
    simp only [Nat.reduceAdd] at h1 h2 h3
    omega
  have l24 := bsum_le (fun i => x.getLsbD (24 + i)) 8
  have l16 := bsum_le (fun i => x.getLsbD (16 + i)) 8
  have l8 := bsum_le (fun i => x.getLsbD (8 + i)) 8
  have l0 := bsum_le (fun i => x.getLsbD i) 8
  congr 1
  rw [hs]
  simp only [BitVec.toNat_add]
  rw [t24, t16, t8, t0]
  omega
theorem count_eq (x : W32) : sets_Count x = some ((bsum (fun i => x.getLsbD i) 32 : Nat) : Int) := by
  unfold sets_Count
  rw [bind_some (ones_eq x)]
theorem has_eq (m : W32) (id : Int) : sets_Has m id = some (if 0 ≤ id ∧ id < 32 then m.getLsbD id.toNat else false) := by
  unfold sets_Has
  by_cases h0 : id ≥ 0
  · rw [if_pos (decide_eq_true h0)]
    by_cases h1 : id < 32
    · rw [if_pos (decide_eq_true h1), if_pos (decide_eq_true (by omega)), if_pos (by omega)]
      congr 1
      rw [Bool.eq_iff_iff, beq_iff_eq]
      constructor
      · intro h
        have := congrArg (fun v => BitVec.getLsbD v 0) h
        simpa using this
      · intro h
        apply ext32
        intro i hi
        rw [BitVec.getLsbD_and, BitVec.getLsbD_ushiftRight, BitVec.getLsbD_one]
        by_cases h2 : i = 0
        · subst h2; simp [h]
        · simp [h2]
    · rw [if_neg (by simpa using h1), if_neg (by omega)]
  · rw [if_neg (by simpa using h0), if_neg (by omega)]
/-! ### the document's -/
end Go.Bm.GoYtldkmmnffjdliaa
