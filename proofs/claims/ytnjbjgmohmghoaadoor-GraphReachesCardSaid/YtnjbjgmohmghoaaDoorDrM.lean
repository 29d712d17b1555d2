/- Laws of what the claim reaches. -/
import Derived.Test.YtnjbjgmohmghoaaDoorDA
namespace Go.Bm.GoYtnjbjgmohmghoaaDoor
set_option autoImplicit false
set_option linter.unusedVariables false
set_option linter.unusedSimpArgs false
set_option maxRecDepth 100000
theorem bind_some {α β : Type} {x : Option α} {v : α} {k : α → Option β} (h : x = some v) : (bind x k) = k v := by rw [h]; rfl
theorem inc (i : Nat) (h : i ≤ 1000000000) : iAdd (i : Int) 1 = ((i + 1 : Nat) : Int) := by rw [iAdd_eq (by omega) (by omega)]; omega
theorem eqT {a b : Int} (h : a = b) : ((a : Int) == b) = true := by simp [h]
theorem eqF {a b : Int} (h : a ≠ b) : ¬ ((a : Int) == b) = true := by simp [h]
abbrev FS := List (List api_Node)
/-- A function calls another one. -/
def Edge (fs : FS) (a b : Nat) : Prop := ∃ i, i < (List.getD fs a []).length ∧ (List.getD (List.getD fs a []) i d_api_Node).kind = 7 ∧ (List.getD (List.getD fs a []) i d_api_Node).arg = (b : Int)
theorem getD_out {α : Type} {l : List α} {i : Nat} {d : α} (h : l.length ≤ i) : List.getD l i d = d := by simp [List.getD, h]
/-- A path by way of functions below a number. -/
inductive Via (fs : FS) (k : Nat) : Nat → Nat → Prop
  | edge (a b : Nat) : Edge fs a b → Via fs k a b
  | comp (a c b : Nat) : Via fs k a c → c < k → Via fs k c b → Via fs k a b
theorem Via.zero {fs : FS} {a b : Nat} (h : Via fs 0 a b) : Edge fs a b := by
  cases h with
  | edge _ _ e => exact e
  | comp _ _ _ _ h _ => omega
theorem Via.succ {fs : FS} {k : Nat} {a b : Nat} (h : Via fs (k + 1) a b) : Via fs k a b ∨ (Via fs k a k ∧ Via fs k k b) := by
  induction h with
  | edge a b e => exact .inl (.edge a b e)
  | comp a c b _ hc _ ih1 ih2 =>
    by_cases hk : c = k
    · subst hk
      have h1 : Via fs c a c := ih1.elim id fun h => h.1
      have h2 : Via fs c c b := ih2.elim id fun h => h.2
      exact .inr ⟨h1, h2⟩
    · have hlt : c < k := by omega
      rcases ih1 with h1 | ⟨h1, h1'⟩ <;> rcases ih2 with h2 | ⟨h2, h2'⟩
      · exact .inl (.comp a c b h1 hlt h2)
      · exact .inr ⟨.comp a c k h1 hlt h2, h2'⟩
      · exact .inr ⟨h1, .comp k c b h1' hlt h2⟩
      · exact .inr ⟨h1, h2'⟩
theorem getD_snoc {α : Type} (t : List α) (x d : α) (a : Nat) : List.getD (t ++ [x]) a d = if a = t.length then x else List.getD t a d := by
  by_cases h : a = t.length
  · subst h; simp [List.getD]
  · rw [if_neg h]
    rcases Nat.lt_or_ge a t.length with h1 | h1
    · simp [List.getD, List.getElem?_append_left h1]
    · rw [getD_out (by simp; omega), getD_out (by omega)]
theorem small_eq (p : api_Program) : ∃ b, alibiref05_Small p = some b ∧ (b = true → p.funcs.length ≤ 40 ∧ ∀ f, (List.getD p.funcs f []).length ≤ 100) := by
  unfold alibiref05_Small
  by_cases h : (p.funcs.length : Int) > 40
  · rw [if_pos (decide_eq_true h)]
    exact ⟨false, rfl, (fun h => by cases h)⟩
  · rw [if_neg (by simpa using h)]
    have key : ∀ (m i : Nat), i + m = p.funcs.length → alibiref05_Small_l4 p.globals p.locks p.slots p.funcs (i : Int) = some (.x0 false) ∨ (alibiref05_Small_l4 p.globals p.locks p.slots p.funcs (i : Int) = some .x1 ∧ ∀ f, i ≤ f → (List.getD p.funcs f []).length ≤ 100) := by
      intro m
      induction m with
      | zero =>
        intro i hi
        rw [alibiref05_Small_l4, if_neg (by simp only [decide_eq_true_eq]; omega)]
        exact .inr ⟨rfl, fun f hf => by rw [getD_out (by omega)]; simp⟩
      | succ m ih =>
        intro i hi
        rw [alibiref05_Small_l4, if_pos (decide_eq_true (by omega)), if_pos (decide_eq_true (by omega)), if_pos (decide_eq_true (by omega)), Int.toNat_natCast, inc i (by omega)]
        by_cases h1 : ((List.getD p.funcs i []).length : Int) > 100
        · rw [if_pos (decide_eq_true h1)]; exact .inl rfl
        · rw [if_neg (by simpa using h1)]
          rcases ih (i + 1) (by omega) with h2 | ⟨h2, h3⟩
          · exact .inl h2
          · refine .inr ⟨h2, fun f hf => ?_⟩
            rcases Nat.eq_or_lt_of_le hf with rfl | hf
            · omega
            · exact h3 f hf
    have h1 := key p.funcs.length 0 (by omega)
    rw [show ((0 : Nat) : Int) = 0 from rfl] at h1
    rcases h1 with h2 | ⟨h2, h3⟩
    · rw [bind_some h2]; exact ⟨false, rfl, (fun h => by cases h)⟩
    · rw [bind_some h2]; exact ⟨true, rfl, fun _ => ⟨by omega, fun f => h3 f (Nat.zero_le _)⟩⟩
abbrev W32 := BitVec 32
/-- The set of an id. -/
def one (id : Int) : W32 := if 0 ≤ id ∧ id < 32 then (1#32) <<< id.toNat else 0#32
theorem one_eq (id : Int) : sets_One id = some (one id) := by
  unfold sets_One one
  by_cases h0 : id < 0
  · rw [if_pos (decide_eq_true h0), if_neg (by omega)]
  · rw [if_neg (by simpa using h0)]
    by_cases h1 : id ≥ 32
    · rw [if_pos (decide_eq_true h1), if_neg (by omega)]
    · rw [if_neg (by simpa using h1), if_pos (decide_eq_true (by omega)), if_pos (by omega)]
theorem one_bit (id : Int) (i : Nat) : (one id).getLsbD i = true ↔ id = (i : Int) ∧ i < 32 := by
  unfold one
  split
  · rename_i h
    simp only [BitVec.getLsbD_shiftLeft, Bool.and_eq_true, decide_eq_true_eq, Bool.not_eq_true', decide_eq_false_iff_not, BitVec.getLsbD_one]
    omega
  · rename_i h
    simp
    omega
theorem named_l3 (k : Int) (l : List api_Node) (hl : l.length ≤ 65536) : ∀ (m i : Nat) (x : W32), i + m = l.length → ∃ x', graph_named_l3 k x l (l.length : Int) (i : Int) = some x' ∧ ∀ b, x'.getLsbD b = true ↔ x.getLsbD b = true ∨ (b < 32 ∧ ∃ j, i ≤ j ∧ j < l.length ∧ (List.getD l j d_api_Node).kind = k ∧ (List.getD l j d_api_Node).arg = (b : Int))
  | 0, i, x, h => by
    rw [graph_named_l3, if_neg (by simp only [decide_eq_true_eq]; omega)]
    exact ⟨x, rfl, fun b => ⟨.inl, fun h => h.elim id fun ⟨_, j, h1, h2, _⟩ => by omega⟩⟩
  | m + 1, i, x, h => by
    rw [graph_named_l3, if_pos (decide_eq_true (by omega)), if_pos (decide_eq_true (by omega)), if_pos (decide_eq_true (by omega)), Int.toNat_natCast, inc i (by omega)]
    by_cases hk : (List.getD l i d_api_Node).kind = k
    · rw [if_pos (eqT hk), bind_some (one_eq _)]
      obtain ⟨x', q1, q2⟩ := named_l3 k l hl m (i + 1) (x ||| one (List.getD l i d_api_Node).arg) (by omega)
      refine ⟨x', q1, fun b => ?_⟩
      rw [q2, BitVec.getLsbD_or, Bool.or_eq_true, one_bit]
      constructor
      · rintro ((h1 | ⟨h1, h2⟩) | ⟨h1, j, h2, h3⟩)
        · exact .inl h1
        · exact .inr ⟨h2, i, Nat.le_refl _, by omega, hk, h1⟩
        · exact .inr ⟨h1, j, by omega, h3⟩
      · rintro (h1 | ⟨h1, j, h2, h3, h4, h5⟩)
        · exact .inl (.inl h1)
        · rcases Nat.eq_or_lt_of_le h2 with rfl | h6
          · exact .inl (.inr ⟨h5, h1⟩)
          · exact .inr ⟨h1, j, h6, h3, h4, h5⟩
    · rw [if_neg (eqF hk)]
      obtain ⟨x', q1, q2⟩ := named_l3 k l hl m (i + 1) x (by omega)
      refine ⟨x', q1, fun b => ?_⟩
      rw [q2]
      constructor
      · rintro (h1 | ⟨h1, j, h2, h3⟩)
        · exact .inl h1
        · exact .inr ⟨h1, j, by omega, h3⟩
      · rintro (h1 | ⟨h1, j, h2, h3, h4, h5⟩)
        · exact .inl h1
        · rcases Nat.eq_or_lt_of_le h2 with rfl | h6
          · exact absurd h4 hk
          · exact .inr ⟨h1, j, h6, h3, h4, h5⟩
theorem named_eq (l : List api_Node) (k : Int) (hl : l.length ≤ 65536) : ∃ x, graph_named l k = some x ∧ ∀ b, x.getLsbD b = true ↔ b < 32 ∧ ∃ j, j < l.length ∧ (List.getD l j d_api_Node).kind = k ∧ (List.getD l j d_api_Node).arg = (b : Int) := by
  obtain ⟨x, q1, q2⟩ := named_l3 k l hl l.length 0 0#32 (by omega)
  rw [show ((0 : Nat) : Int) = 0 from rfl] at q1
  unfold graph_named
  rw [bind_some q1]
  exact ⟨x, rfl, fun b => by rw [q2]; simp⟩
theorem callees_l3 (fs : FS) (hn : fs.length ≤ 65536) (hlen : ∀ f, (List.getD fs f []).length ≤ 65536) : ∀ (m f : Nat) (t : List W32), f + m = fs.length → t.length = f → (∀ x b, x < f → ((List.getD t x 0#32).getLsbD b = true ↔ b < 32 ∧ Edge fs x b)) →
    ∃ t', graph_Callees_l3 t fs (fs.length : Int) (f : Int) = some t' ∧ t'.length = fs.length ∧ ∀ x b, x < fs.length → ((List.getD t' x 0#32).getLsbD b = true ↔ b < 32 ∧ Edge fs x b)
  | 0, f, t, h, h1, h2 => by
    rw [graph_Callees_l3, if_neg (by simp only [decide_eq_true_eq]; omega)]
    exact ⟨t, rfl, by omega, fun x b hx => h2 x b (by omega)⟩
  | m + 1, f, t, h, h1, h2 => by
    obtain ⟨x, q1, q2⟩ := named_eq (List.getD fs f []) 7 (hlen f)
    rw [graph_Callees_l3, if_pos (decide_eq_true (by omega)), if_pos (decide_eq_true (by omega)), if_pos (decide_eq_true (by omega)), Int.toNat_natCast, bind_some q1, if_pos (Nat.ble_eq_true_of_le (by simp only [List.length_singleton, reach]; omega)), inc f (by omega)]
    refine callees_l3 fs hn hlen m (f + 1) (t ++ [x]) (by omega) (by simp [h1]) fun y b hy => ?_
    rw [getD_snoc]
    split
    · rename_i e
      rw [q2]
      have : y = f := by omega
      subst this
      exact Iff.rfl
    · exact h2 y b (by omega)
theorem callees_eq (p : api_Program) (hn : p.funcs.length ≤ 65536) (hlen : ∀ f, (List.getD p.funcs f []).length ≤ 65536) : ∃ t, graph_Callees p = some t ∧ t.length = p.funcs.length ∧ ∀ x b, x < p.funcs.length → ((List.getD t x 0#32).getLsbD b = true ↔ b < 32 ∧ Edge p.funcs x b) := by
  obtain ⟨t, q1, q2⟩ := callees_l3 p.funcs hn hlen p.funcs.length 0 [] (by omega) rfl (fun x b hx => by omega)
  rw [show ((0 : Nat) : Int) = 0 from rfl] at q1
  unfold graph_Callees
  rw [bind_some q1]
  exact ⟨t, rfl, q2⟩
def succ (x : api_Node) : List Int := if x.kind = 9 then [] else if x.kind = 8 then [x.next, x.alt] else [x.next]
theorem awake06 : alibilaw06_awake = some true := alibilaw06_awake_le 40 _ (by kernel_rfl)
/-- The lowest bit. -/
def Low (x : W32) (k : Nat) : Prop := k < 32 ∧ x.getLsbD k = true ∧ ∀ j, j < k → ¬ x.getLsbD j = true
theorem low_ex_aux (x : W32) : ∀ (m i : Nat), (∀ j, j < i → ¬ x.getLsbD j = true) → i + m = 32 → (∃ k, Low x k) ∨ ∀ j, j < 32 → ¬ x.getLsbD j = true
  | 0, i, h, e => .inr fun j hj => h j (by omega)
  | m + 1, i, h, e => by
    by_cases c : x.getLsbD i = true
    · exact .inl ⟨i, by omega, c, h⟩
    · exact low_ex_aux x m (i + 1) (fun j hj => by
        rcases Nat.lt_or_ge j i with h1 | h1
        · exact h j h1
        · rw [show j = i by omega]; exact c) (by omega)
theorem low_ex {x : W32} (h : x ≠ 0#32) : ∃ k, Low x k := by
  rcases low_ex_aux x 32 0 (fun j hj => by omega) rfl with h1 | h1
  · exact h1
  · refine absurd (BitVec.eq_of_getLsbD_eq fun i hi => ?_) h
    have h2 := h1 i hi
    rw [Bool.not_eq_true] at h2
    rw [h2]
    simp
theorem low_below {x : W32} {k : Nat} (h : Low x k) (i : Nat) : (∃ j, j < i ∧ x.getLsbD j = true) ↔ k < i := by
  constructor
  · rintro ⟨j, h1, h2⟩
    rcases Nat.lt_or_ge k i with h3 | h3
    · exact h3
    · exact absurd h2 (h.2.2 j (by omega))
  · exact fun h1 => ⟨k, h1, h.2.1⟩
theorem low_neg {x : W32} {k : Nat} (h : Low x k) : x &&& (-x) = BitVec.twoPow 32 k := by
  refine BitVec.eq_of_getLsbD_eq fun i hi => ?_
  rw [BitVec.getLsbD_and, BitVec.getLsbD_neg, BitVec.getLsbD_twoPow]
  have h1 := low_below h i
  by_cases c : k < i
  · have : decide (∃ j, j < i ∧ x.getLsbD j = true) = true := decide_eq_true (h1.2 c)
    rw [this]
    have : decide (k = i) = false := decide_eq_false (by omega)
    rw [this]
    cases x.getLsbD i <;> simp [hi]
  · have : decide (∃ j, j < i ∧ x.getLsbD j = true) = false := decide_eq_false fun hh => c (h1.1 hh)
    rw [this]
    by_cases e : k = i
    · subst e
      rw [h.2.1]
      simp [h.1]
    · have h2 : x.getLsbD i = false := by
        rw [← Bool.not_eq_true]
        exact h.2.2 i (by omega)
      rw [h2]
      simp [e]
theorem low_clear {x : W32} {k : Nat} (h : Low x k) (i : Nat) : (x &&& (x - 1#32)).getLsbD i = true ↔ x.getLsbD i = true ∧ i ≠ k := by
  rw [← BitVec.not_neg, BitVec.getLsbD_and, BitVec.getLsbD_not, BitVec.getLsbD_neg]
  have h1 := low_below h i
  by_cases hi : i < 32
  · by_cases c : k < i
    · have : decide (∃ j, j < i ∧ x.getLsbD j = true) = true := decide_eq_true (h1.2 c)
      rw [this]
      have : i ≠ k := by omega
      cases x.getLsbD i <;> simp [hi, this]
    · have : decide (∃ j, j < i ∧ x.getLsbD j = true) = false := decide_eq_false fun hh => c (h1.1 hh)
      rw [this]
      by_cases e : i = k
      · subst e
        rw [h.2.1]
        simp
      · have h2 : x.getLsbD i = false := by
          rw [← Bool.not_eq_true]
          exact h.2.2 i (by omega)
        rw [h2]
        simp
  · have h2 : x.getLsbD i = false := BitVec.getLsbD_of_ge _ _ (by omega)
    rw [h2]
    simp
theorem bruijn_all : ∀ k : Fin 32, (BitVec.toNat (((BitVec.twoPow 32 k.val) * (125613361#32)) >>> (BitVec.toNat (27#64))) < 32) ∧ BitVec.toNat (tab_0 (BitVec.toNat (((BitVec.twoPow 32 k.val) * (125613361#32)) >>> (BitVec.toNat (27#64))))) = k.val := by decide +kernel
theorem tz_eq {x : W32} {k : Nat} (h : Low x k) : math_bits_TrailingZeros32 x = some (k : Int) := by
  have hx : ¬ (x == 0#32) = true := fun hh => by
    have h2 := h.2.1
    rw [beq_iff_eq.1 hh] at h2
    simp at h2
  obtain ⟨t1, t2⟩ := bruijn_all ⟨k, h.1⟩
  simp only [] at t1 t2
  unfold math_bits_TrailingZeros32
  rw [if_neg hx, low_neg h, if_pos (decide_eq_true (by omega)), Int.toNat_natCast, t2]
theorem least_low {x : W32} {k : Nat} (h : Low x k) : sets_Least x = some (k : Int) := by
  have hx : ¬ (x == 0#32) = true := fun hh => by
    have h2 := h.2.1
    rw [beq_iff_eq.1 hh] at h2
    simp at h2
  unfold sets_Least
  rw [if_neg hx, bind_some (tz_eq h)]
theorem list_l2 : ∀ (d : Nat) (x : W32) (t : List Int), x.toNat ≤ d → (∀ i, i < t.length → ¬ x.getLsbD i = true) → t.length ≤ 32 → ∃ o, sets_List_l2 t x = some o ∧ o.length ≤ 32 ∧ ∀ y : Int, y ∈ o ↔ y ∈ t ∨ ∃ b : Nat, y = (b : Int) ∧ x.getLsbD b = true
  | d, x, t, hd, hl, ht => by
    by_cases hz : x = 0#32
    · rw [sets_List_l2, if_neg (by simpa using hz)]
      exact ⟨t, rfl, ht, fun y => ⟨.inl, fun h => h.elim id fun ⟨b, _, hb⟩ => by rw [hz] at hb; simp at hb⟩⟩
    · obtain ⟨k, hk⟩ := low_ex hz
      have hkt : t.length ≤ k := by
        rcases Nat.lt_or_ge k t.length with h | h
        · exact absurd hk.2.1 (hl k h)
        · exact h
      have hk32 := hk.1
      have hlt : (x &&& (x - 1#32)).toNat < x.toNat := by
        rcases Nat.lt_or_ge (x &&& (x - 1#32)).toNat x.toNat with h | h
        · exact h
        · have hle : (x &&& (x - 1#32)).toNat ≤ x.toNat := by rw [BitVec.toNat_and]; exact Nat.and_le_left
          have e : x &&& (x - 1#32) = x := BitVec.eq_of_toNat_eq (by omega)
          have := (low_clear hk k).1 (by rw [e]; exact hk.2.1)
          exact absurd rfl this.2
      match d, hd with
      | 0, hd => omega
      | d + 1, hd =>
        rw [sets_List_l2, if_pos (by simpa using hz), bind_some (least_low hk), if_pos (Nat.ble_eq_true_of_le (by simp only [List.length_singleton, reach]; omega))]
        obtain ⟨o, o1, o2, o3⟩ := list_l2 d (x &&& (x - 1#32)) (t ++ [(k : Int)]) (by omega) (fun i hi h => by
          rw [List.length_append, List.length_singleton] at hi
          obtain ⟨h1, h2⟩ := (low_clear hk i).1 h
          exact hk.2.2 i (by omega) h1) (by rw [List.length_append, List.length_singleton]; omega)
        refine ⟨o, o1, o2, fun y => ?_⟩
        rw [o3, List.mem_append, List.mem_singleton]
        constructor
        · rintro ((h | h) | ⟨b, h1, h2⟩)
          · exact .inl h
          · exact .inr ⟨k, h, hk.2.1⟩
          · exact .inr ⟨b, h1, ((low_clear hk b).1 h2).1⟩
        · rintro (h | ⟨b, h1, h2⟩)
          · exact .inl (.inl h)
          · by_cases e : b = k
            · exact .inl (.inr (by rw [h1, e]))
            · exact .inr ⟨b, h1, (low_clear hk b).2 ⟨h2, e⟩⟩
theorem list_eq (x : W32) : ∃ o, sets_List x = some o ∧ o.length ≤ 32 ∧ ∀ y : Int, y ∈ o ↔ ∃ b : Nat, y = (b : Int) ∧ x.getLsbD b = true := by
  obtain ⟨o, o1, o2, o3⟩ := list_l2 x.toNat x [] (Nat.le_refl _) (fun i hi => by simp at hi) (by simp)
  unfold sets_List
  rw [bind_some o1]
  exact ⟨o, rfl, o2, fun y => by rw [o3]; simp⟩
def allM (n : Nat) : W32 := BitVec.setWidth 32 (((1#64) <<< n) - (1#64))
theorem allM_fin : ∀ n : Fin 33, ∀ i : Fin 32, (allM n.val).getLsbD i.val = decide (i.val < n.val) := by decide +kernel
theorem allM_bit {n : Nat} (hn : n ≤ 32) (b : Nat) : (allM n).getLsbD b = true ↔ b < n := by
  by_cases hb : b < 32
  · rw [allM_fin ⟨n, by omega⟩ ⟨b, hb⟩, decide_eq_true_iff]
  · rw [BitVec.getLsbD_of_ge _ _ (by omega)]
    constructor
    · intro h; cases h
    · intro h; omega
theorem sall_eq (n : Nat) (hn : n ≤ 32) : sets_All (n : Int) = some (allM n) := by
  unfold sets_All
  have h1 : ¬ (32 : Int) < (n : Int) := by omega
  have h2 : ¬ (0 : Int) > (n : Int) := by omega
  simp only [if_neg h1, if_neg h2]
  rw [if_pos (decide_eq_true (by omega)), Int.toNat_natCast]
  rfl
/-- Comes to, by calls within the program. -/
inductive Rt (C : List W32) : Nat → Nat → Prop
  | refl (a : Nat) : Rt C a a
  | step (a b c : Nat) : b < C.length → (List.getD C a 0#32).getLsbD b = true → Rt C b c → Rt C a c
theorem rt_in {C : List W32} {m : W32} (h : ∀ a, m.getLsbD a = true → ∀ b, b < C.length → (List.getD C a 0#32).getLsbD b = true → m.getLsbD b = true) {a b : Nat} (hr : Rt C a b) : m.getLsbD a = true → m.getLsbD b = true := by
  induction hr with
  | refl a => exact id
  | step a b c h1 h2 _ ih => exact fun ha => ih (h a ha b h1 h2)
theorem rt_trans {C : List W32} {a b c : Nat} (h : Rt C a b) (h2 : Rt C b c) : Rt C a c := by
  induction h with
  | refl a => exact h2
  | step a b d h1 h3 _ ih => exact .step a b _ h1 h3 (ih h2)
theorem rt_lt {C : List W32} {a b : Nat} (h : Rt C a b) (ha : a < C.length) : b < C.length := by
  induction h with
  | refl a => exact ha
  | step a b d h1 h3 _ ih => exact ih h1
theorem l5_eq (C : List W32) (hC : C.length ≤ 32) (t : List Int) (ht : t.length ≤ 32) (hr : ∀ y ∈ t, 0 ≤ y ∧ y < (C.length : Int)) (x2 : W32) : ∀ (m j : Nat) (x3 : W32), j + m = t.length → ∃ y, graph_Reach_l5 C t x2 x3 (t.length : Int) (j : Int) = some y ∧ ∀ b, y.getLsbD b = true ↔ x3.getLsbD b = true ∨ ∃ i, j ≤ i ∧ i < t.length ∧ b < C.length ∧ (List.getD C (List.getD t i 0).toNat 0#32).getLsbD b = true
  | 0, j, x3, h => by
    rw [graph_Reach_l5, if_neg (by simp only [decide_eq_true_eq]; omega)]
    exact ⟨x3, rfl, fun b => ⟨.inl, fun h => h.elim id fun ⟨i, h1, h2, _⟩ => by omega⟩⟩
  | m + 1, j, x3, h => by
    have hj : j < t.length := by omega
    have hm : List.getD t j 0 ∈ t := by
      rw [show List.getD t j 0 = t[j] by simp [List.getD, hj]]
      exact List.getElem_mem _
    have hb := hr _ hm
    obtain ⟨y, y1, y2⟩ := l5_eq C hC t ht hr x2 m (j + 1) (x3 ||| ((List.getD C (List.getD t j 0).toNat 0#32) &&& allM C.length)) (by omega)
    rw [graph_Reach_l5, if_pos (decide_eq_true (by omega)), if_pos (decide_eq_true (by omega)), if_pos (decide_eq_true (by omega)), Int.toNat_natCast, if_pos (decide_eq_true hb.1), if_pos (decide_eq_true hb.2), bind_some (sall_eq _ hC), inc j (by omega)]
    refine ⟨y, y1, fun b => ?_⟩
    rw [y2, BitVec.getLsbD_or, Bool.or_eq_true, BitVec.getLsbD_and, Bool.and_eq_true, allM_bit hC]
    constructor
    · rintro ((h1 | ⟨h1, h2⟩) | ⟨i, h1, h2, h3⟩)
      · exact .inl h1
      · exact .inr ⟨j, Nat.le_refl _, hj, h2, h1⟩
      · exact .inr ⟨i, by omega, h2, h3⟩
    · rintro (h1 | ⟨i, h1, h2, h3, h4⟩)
      · exact .inl (.inl h1)
      · rcases Nat.eq_or_lt_of_le h1 with rfl | h5
        · exact .inl (.inr ⟨h4, h3⟩)
        · exact .inr ⟨i, h5, h2, h3, h4⟩
theorem reach_l3 (C : List W32) (hC : C.length ≤ 32) : ∀ (d : Nat) (m : W32), 2 ^ 32 - m.toNat ≤ d → (∀ b, m.getLsbD b = true → b < C.length) → ∃ R, graph_Reach_l3 C m = some R ∧ ∀ b, R.getLsbD b = true ↔ ∃ a, m.getLsbD a = true ∧ Rt C a b
  | 0, m, hd, hm => by have := m.isLt; omega
  | d + 1, m, hd, hm => by
    obtain ⟨t, t1, t2, t3⟩ := list_eq m
    obtain ⟨y, y1, y2⟩ := l5_eq C hC t t2 (fun y hy => by
      obtain ⟨b, e, hb⟩ := (t3 y).1 hy
      have := hm b hb
      omega) m t.length 0 m (Nat.zero_add _)
    rw [show ((0 : Nat) : Int) = 0 from rfl] at y1
    have y3 : ∀ b, y.getLsbD b = true ↔ m.getLsbD b = true ∨ ∃ a, m.getLsbD a = true ∧ b < C.length ∧ (List.getD C a 0#32).getLsbD b = true := fun b => by
      rw [y2]
      constructor
      · rintro (h | ⟨i, _, h1, h2, h3⟩)
        · exact .inl h
        · have hmem : List.getD t i 0 ∈ t := by
            rw [show List.getD t i 0 = t[i] by simp [List.getD, h1]]
            exact List.getElem_mem _
          obtain ⟨a, e, ha⟩ := (t3 _).1 hmem
          rw [e, Int.toNat_natCast] at h3
          exact .inr ⟨a, ha, h2, h3⟩
      · rintro (h | ⟨a, h1, h2, h3⟩)
        · exact .inl h
        · obtain ⟨i, hi, e⟩ := List.mem_iff_getElem.1 ((t3 (a : Int)).2 ⟨a, rfl, h1⟩)
          refine .inr ⟨i, Nat.zero_le _, hi, h2, ?_⟩
          rw [show List.getD t i 0 = (a : Int) by simp [List.getD, hi, e], Int.toNat_natCast]
          exact h3
    rw [graph_Reach_l3, bind_some t1, bind_some y1]
    by_cases he : y = m
    · rw [if_pos (beq_iff_eq.2 he)]
      refine ⟨m, rfl, fun b => ⟨fun h => ⟨b, h, .refl b⟩, fun ⟨a, ha, hr⟩ => rt_in (fun a ha b hb hc => ?_) hr ha⟩⟩
      rw [← he]
      exact (y3 b).2 (.inr ⟨a, ha, hb, hc⟩)
    · rw [if_neg (fun h => he (beq_iff_eq.1 h))]
      have hle : m.toNat ≤ y.toNat := by
        have e : y = m ||| y := BitVec.eq_of_getLsbD_eq fun i hi => by
          rw [BitVec.getLsbD_or]
          cases hmi : m.getLsbD i with
          | false => simp
          | true => rw [(y3 i).2 (.inl hmi)]; rfl
        rw [e, BitVec.toNat_or]
        exact Nat.left_le_or
      have hlt : m.toNat < y.toNat := by
        rcases Nat.lt_or_ge m.toNat y.toNat with h | h
        · exact h
        · exact absurd (BitVec.eq_of_toNat_eq (by omega)) he
      have hy := y.isLt
      obtain ⟨R, r1, r2⟩ := reach_l3 C hC d y (by omega) fun b hb => by
        rcases (y3 b).1 hb with h | ⟨_, _, h, _⟩
        · exact hm b h
        · exact h
      refine ⟨R, r1, fun b => ?_⟩
      rw [r2]
      constructor
      · rintro ⟨a, ha, hr⟩
        rcases (y3 a).1 ha with h | ⟨a0, h0, h1, h2⟩
        · exact ⟨a, h, hr⟩
        · exact ⟨a0, h0, .step _ _ _ h1 h2 hr⟩
      · rintro ⟨a, ha, hr⟩
        exact ⟨a, (y3 a).2 (.inl ha), hr⟩
theorem reachL_eq (p : api_Program) {C : List W32} (hc : graph_Callees p = some C) (hC : C.length ≤ 32) (from_ : W32) : ∃ R, graph_Reach p from_ = some R ∧ ∀ b, R.getLsbD b = true ↔ ∃ a, a < C.length ∧ from_.getLsbD a = true ∧ Rt C a b := by
  obtain ⟨R, r1, r2⟩ := reach_l3 C hC (2 ^ 32) (from_ &&& allM C.length) (by omega) fun b hb => by
    rw [BitVec.getLsbD_and, Bool.and_eq_true, allM_bit hC] at hb
    exact hb.2
  unfold graph_Reach
  rw [bind_some hc, bind_some (sall_eq _ hC), bind_some r1]
  refine ⟨R, rfl, fun b => ?_⟩
  rw [r2]
  constructor
  · rintro ⟨a, ha, hr⟩
    rw [BitVec.getLsbD_and, Bool.and_eq_true, allM_bit hC] at ha
    exact ⟨a, ha.2, ha.1, hr⟩
  · rintro ⟨a, h1, h2, hr⟩
    refine ⟨a, ?_, hr⟩
    rw [BitVec.getLsbD_and, Bool.and_eq_true, allM_bit hC]
    exact ⟨h2, h1⟩
theorem bits_eq {x y : W32} (h : ∀ b, x.getLsbD b = true ↔ y.getLsbD b = true) : x = y := BitVec.eq_of_getLsbD_eq fun i _ => Bool.eq_iff_iff.2 (h i)
theorem graphReaches (p : api_Program) (a b : W32) : alibilaw06_GraphReaches p a b = some true := by
  unfold alibilaw06_GraphReaches
  rw [bind_some awake06, if_neg (by decide)]
  obtain ⟨sm, s1, s2⟩ := small_eq p
  rw [bind_some s1]
  cases sm with
  | false => rw [if_pos (by decide), bind_some awake06]
  | true =>
    rw [if_neg (by decide)]
    obtain ⟨_, hl⟩ := s2 rfl
    by_cases hn : (p.funcs.length : Int) > 32
    · rw [if_pos (decide_eq_true hn), bind_some awake06]
    · rw [if_neg (by simpa using hn)]
      obtain ⟨C, c1, c2, _⟩ := callees_eq p (by omega) fun f => by have := hl f; omega
      have hC : C.length ≤ 32 := by omega
      obtain ⟨A, a1, a2⟩ := reachL_eq p c1 hC a
      obtain ⟨B, b1, b2⟩ := reachL_eq p c1 hC b
      obtain ⟨A2, d1, d2⟩ := reachL_eq p c1 hC A
      obtain ⟨AB, e1, e2⟩ := reachL_eq p c1 hC (a ||| b)
      have hM : BitVec.setWidth 32 (((1#64) <<< (Int.toNat (((List.length p.funcs : Nat) : Int)))) - (1#64)) = allM C.length := by
        rw [Int.toNat_natCast, c2]
        rfl
      have Alt : ∀ x, A.getLsbD x = true → x < C.length := fun x hx => by
        obtain ⟨y, h1, _, h2⟩ := (a2 x).1 hx
        exact rt_lt h2 h1
      have h1 : A &&& allM C.length = A := bits_eq fun x => by
        rw [BitVec.getLsbD_and, Bool.and_eq_true, allM_bit hC]
        exact ⟨fun h => h.1, fun h => ⟨h, Alt x h⟩⟩
      have h2 : (a &&& allM C.length) &&& ~~~A = 0#32 := BitVec.eq_of_getLsbD_eq fun i hi => by
        rw [BitVec.getLsbD_and, BitVec.getLsbD_not]
        cases e : (a &&& allM C.length).getLsbD i with
        | false => simp
        | true =>
          rw [BitVec.getLsbD_and, Bool.and_eq_true, allM_bit hC] at e
          rw [(a2 i).2 ⟨i, e.2, e.1, .refl i⟩]
          simp
      have h3 : A2 = A := bits_eq fun x => by
        rw [d2]
        constructor
        · rintro ⟨y, _, hy, hr⟩
          obtain ⟨z, z1, z2, z3⟩ := (a2 y).1 hy
          exact (a2 x).2 ⟨z, z1, z2, rt_trans z3 hr⟩
        · exact fun hx => ⟨x, Alt x hx, hx, .refl x⟩
      have h4 : AB = A ||| B := bits_eq fun x => by
        rw [BitVec.getLsbD_or, Bool.or_eq_true, a2, b2, e2]
        constructor
        · rintro ⟨y, y1, y2, y3⟩
          rw [BitVec.getLsbD_or, Bool.or_eq_true] at y2
          rcases y2 with y2 | y2
          · exact .inl ⟨y, y1, y2, y3⟩
          · exact .inr ⟨y, y1, y2, y3⟩
        · rintro (⟨y, y1, y2, y3⟩ | ⟨y, y1, y2, y3⟩)
          · exact ⟨y, y1, by rw [BitVec.getLsbD_or, y2]; rfl, y3⟩
          · exact ⟨y, y1, by rw [BitVec.getLsbD_or, y2, Bool.or_true], y3⟩
      rw [bind_some a1, bind_some b1, if_pos (decide_eq_true (by omega)), hM, if_pos (beq_iff_eq.2 h1), if_pos (beq_iff_eq.2 h2), bind_some d1, if_pos (beq_iff_eq.2 h3), bind_some e1, h4]
      simp
end Go.Bm.GoYtnjbjgmohmghoaaDoor
