/- Laws of what the claim reaches. -/
import Derived.Test.YtnjbjgmohmghoaaDoorDA
namespace Go.Bm.GoYtnjbjgmohmghoaaDoor
set_option autoImplicit false
set_option linter.unusedVariables false
set_option linter.unusedSimpArgs false
set_option maxRecDepth 100000
theorem bind_some {α β : Type} {x : Option α} {v : α} {k : α → Option β} (h : x = some v) : (bind x k) = k v := by rw [h]; rfl
theorem inc (i : Nat) (h : i ≤ 1000000000) : iAdd (i : Int) 1 = ((i + 1 : Nat) : Int) := by rw [iAdd_eq (by omega) (by omega)]; omega
theorem eqT {a b : Int} (h : a = b) : ((a : Int) == b) = true := by simp [h]
theorem eqF {a b : Int} (h : a ≠ b) : ¬ ((a : Int) == b) = true := by simp [h]
structure NodeOk (p : api_Program) (x : api_Node) (n : Int) : Prop where
  kind : 0 ≤ x.kind ∧ x.kind ≤ 9
  glob : x.kind = 1 ∨ x.kind = 2 → 0 ≤ x.arg ∧ x.arg < p.globals
  lock : x.kind = 3 ∨ x.kind = 4 → 0 ≤ x.arg ∧ x.arg < p.locks
  spawn : x.kind = 5 → 0 ≤ x.arg ∧ x.arg < p.funcs.length ∧ 0 ≤ x.alt ∧ x.alt < p.slots
  join : x.kind = 6 → 0 ≤ x.arg ∧ x.arg < p.slots
  call : x.kind = 7 → 0 ≤ x.arg ∧ x.arg < p.funcs.length
  next : x.kind ≠ 9 → 0 ≤ x.next ∧ x.next < max n 1
  alt : x.kind = 8 → 0 ≤ x.alt ∧ x.alt < max n 1
abbrev FS := List (List api_Node)
/-- A function calls another one. -/
def Edge (fs : FS) (a b : Nat) : Prop := ∃ i, i < (List.getD fs a []).length ∧ (List.getD (List.getD fs a []) i d_api_Node).kind = 7 ∧ (List.getD (List.getD fs a []) i d_api_Node).arg = (b : Int)
inductive Path (fs : FS) : Nat → Nat → Prop
  | refl (a : Nat) : Path fs a a
  | step (a b c : Nat) : Edge fs a b → Path fs b c → Path fs a c
/-- Calls are to functions that there are. -/
def CallsOk (fs : FS) : Prop := ∀ f i, f < fs.length → i < (List.getD fs f []).length → (List.getD (List.getD fs f []) i d_api_Node).kind = 7 → 0 ≤ (List.getD (List.getD fs f []) i d_api_Node).arg ∧ (List.getD (List.getD fs f []) i d_api_Node).arg < fs.length
theorem getD_out {α : Type} {l : List α} {i : Nat} {d : α} (h : l.length ≤ i) : List.getD l i d = d := by simp [List.getD, h]
theorem Edge.lt {fs : FS} {a b : Nat} (hc : CallsOk fs) (h : Edge fs a b) : a < fs.length ∧ b < fs.length := by
  obtain ⟨i, h1, h2, h3⟩ := h
  rcases Nat.lt_or_ge a fs.length with h4 | h4
  · have := hc a i h4 h1 h2
    exact ⟨h4, by omega⟩
  · rw [getD_out h4] at h1
    cases h1
def Sn (s : List Bool) (x : Nat) : Prop := List.getD s x false = true
theorem Sn.lt {s : List Bool} {x : Nat} (h : Sn s x) : x < s.length := by
  rcases Nat.lt_or_ge x s.length with h1 | h1
  · exact h1
  · unfold Sn at h; rw [getD_out h1] at h; cases h
theorem Sn_set {s : List Bool} {a x : Nat} (ha : a < s.length) : Sn (s.set a true) x ↔ x = a ∨ Sn s x := by
  unfold Sn
  by_cases h : x = a
  · subst h; simp [List.getD, ha]
  · have : a ≠ x := fun e => h e.symm
    simp [List.getD, List.getElem?_set, this, h]
theorem count_mono : ∀ (l m : List Bool), l.length = m.length → (∀ x, Sn l x → Sn m x) → m.count false ≤ l.count false
  | [], [], _, _ => Nat.le_refl _
  | a :: l, b :: m, hl, h => by
    have ih := count_mono l m (by simpa using hl) fun x hx => h (x + 1) hx
    have h0 := h 0
    unfold Sn at h0
    cases a <;> cases b <;> simp_all <;> omega
theorem count_set_true {s : List Bool} {a : Nat} (ha : a < s.length) (h : ¬ Sn s a) : (s.set a true).count false + 1 = s.count false := by
  have h1 : s[a] = false := by
    unfold Sn at h
    simpa [List.getD, ha] using h
  rw [List.count_set ha]
  have : 0 < s.count false := by
    rw [← h1]; exact List.count_pos_iff.2 (List.getElem_mem ha)
  simp [h1]
  omega
theorem sn_replicate (n x : Nat) : ¬ Sn (List.replicate n false) x := by
  unfold Sn
  simp only [List.getD, List.getElem?_replicate]
  split <;> simp
/-- A node calls what comes back. -/
def Bad (fs : FS) (f i : Nat) : Prop := (List.getD (List.getD fs f []) i d_api_Node).kind = 7 ∧ ∃ a : Nat, (List.getD (List.getD fs f []) i d_api_Node).arg = (a : Int) ∧ Path fs a f
/-- A path by way of functions below a number. -/
inductive Via (fs : FS) (k : Nat) : Nat → Nat → Prop
  | edge (a b : Nat) : Edge fs a b → Via fs k a b
  | comp (a c b : Nat) : Via fs k a c → c < k → Via fs k c b → Via fs k a b
theorem Via.zero {fs : FS} {a b : Nat} (h : Via fs 0 a b) : Edge fs a b := by
  cases h with
  | edge _ _ e => exact e
  | comp _ _ _ _ h _ => omega
theorem Via.mono {fs : FS} {k : Nat} {a b : Nat} (h : Via fs k a b) : Via fs (k + 1) a b := by
  induction h with
  | edge a b e => exact .edge a b e
  | comp a c b _ hc _ ih1 ih2 => exact .comp a c b ih1 (by omega) ih2
theorem Via.succ {fs : FS} {k : Nat} {a b : Nat} (h : Via fs (k + 1) a b) : Via fs k a b ∨ (Via fs k a k ∧ Via fs k k b) := by
  induction h with
  | edge a b e => exact .inl (.edge a b e)
  | comp a c b _ hc _ ih1 ih2 =>
    by_cases hk : c = k
    · subst hk
      have h1 : Via fs c a c := ih1.elim id fun h => h.1
      have h2 : Via fs c c b := ih2.elim id fun h => h.2
      exact .inr ⟨h1, h2⟩
    · have hlt : c < k := by omega
      rcases ih1 with h1 | ⟨h1, h1'⟩ <;> rcases ih2 with h2 | ⟨h2, h2'⟩
      · exact .inl (.comp a c b h1 hlt h2)
      · exact .inr ⟨.comp a c k h1 hlt h2, h2'⟩
      · exact .inr ⟨h1, .comp k c b h1' hlt h2⟩
      · exact .inr ⟨h1, h2'⟩
theorem getD_snoc {α : Type} (t : List α) (x d : α) (a : Nat) : List.getD (t ++ [x]) a d = if a = t.length then x else List.getD t a d := by
  by_cases h : a = t.length
  · subst h; simp [List.getD]
  · rw [if_neg h]
    rcases Nat.lt_or_ge a t.length with h1 | h1
    · simp [List.getD, List.getElem?_append_left h1]
    · rw [getD_out (by simp; omega), getD_out (by omega)]
/-- A program that may be. -/
structure Good (p : api_Program) : Prop where
  globals : 0 ≤ p.globals ∧ p.globals ≤ 16
  locks : 0 ≤ p.locks ∧ p.locks ≤ 16
  slots : 0 ≤ p.slots ∧ p.slots ≤ 8
  funcs : 0 < p.funcs.length ∧ p.funcs.length ≤ 16
  len : ∀ f, f < p.funcs.length → 0 < (List.getD p.funcs f []).length ∧ (List.getD p.funcs f []).length ≤ 64
  node : ∀ f i, f < p.funcs.length → i < (List.getD p.funcs f []).length → NodeOk p (List.getD (List.getD p.funcs f []) i d_api_Node) ((List.getD p.funcs f []).length : Int)
  acyc : ∀ f i, f < p.funcs.length → i < (List.getD p.funcs f []).length → ¬ Bad p.funcs f i
theorem Good.calls {p : api_Program} (h : Good p) : CallsOk p.funcs := fun f i h1 h2 h3 => (h.node f i h1 h2).call h3
theorem small_eq (p : api_Program) : ∃ b, alibiref05_Small p = some b ∧ (b = true → p.funcs.length ≤ 40 ∧ ∀ f, (List.getD p.funcs f []).length ≤ 100) := by
  unfold alibiref05_Small
  by_cases h : (p.funcs.length : Int) > 40
  · rw [if_pos (decide_eq_true h)]
    exact ⟨false, rfl, (fun h => by cases h)⟩
  · rw [if_neg (by simpa using h)]
    have key : ∀ (m i : Nat), i + m = p.funcs.length → alibiref05_Small_l4 p.globals p.locks p.slots p.funcs (i : Int) = some (.x0 false) ∨ (alibiref05_Small_l4 p.globals p.locks p.slots p.funcs (i : Int) = some .x1 ∧ ∀ f, i ≤ f → (List.getD p.funcs f []).length ≤ 100) := by
      intro m
      induction m with
      | zero =>
        intro i hi
        rw [alibiref05_Small_l4, if_neg (by simp only [decide_eq_true_eq]; omega)]
        exact .inr ⟨rfl, fun f hf => by rw [getD_out (by omega)]; simp⟩
      | succ m ih =>
        intro i hi
        rw [alibiref05_Small_l4, if_pos (decide_eq_true (by omega)), if_pos (decide_eq_true (by omega)), if_pos (decide_eq_true (by omega)), Int.toNat_natCast, inc i (by omega)]
        by_cases h1 : ((List.getD p.funcs i []).length : Int) > 100
        · rw [if_pos (decide_eq_true h1)]; exact .inl rfl
        · rw [if_neg (by simpa using h1)]
          rcases ih (i + 1) (by omega) with h2 | ⟨h2, h3⟩
          · exact .inl h2
          · refine .inr ⟨h2, fun f hf => ?_⟩
            rcases Nat.eq_or_lt_of_le hf with rfl | hf
            · omega
            · exact h3 f hf
    have h1 := key p.funcs.length 0 (by omega)
    rw [show ((0 : Nat) : Int) = 0 from rfl] at h1
    rcases h1 with h2 | ⟨h2, h3⟩
    · rw [bind_some h2]; exact ⟨false, rfl, (fun h => by cases h)⟩
    · rw [bind_some h2]; exact ⟨true, rfl, fun _ => ⟨by omega, fun f => h3 f (Nat.zero_le _)⟩⟩
abbrev W32 := BitVec 32
/-- The set of an id. -/
def one (id : Int) : W32 := if 0 ≤ id ∧ id < 32 then (1#32) <<< id.toNat else 0#32
theorem one_eq (id : Int) : sets_One id = some (one id) := by
  unfold sets_One one
  by_cases h0 : id < 0
  · rw [if_pos (decide_eq_true h0), if_neg (by omega)]
  · rw [if_neg (by simpa using h0)]
    by_cases h1 : id ≥ 32
    · rw [if_pos (decide_eq_true h1), if_neg (by omega)]
    · rw [if_neg (by simpa using h1), if_pos (decide_eq_true (by omega)), if_pos (by omega)]
theorem one_bit (id : Int) (i : Nat) : (one id).getLsbD i = true ↔ id = (i : Int) ∧ i < 32 := by
  unfold one
  split
  · rename_i h
    simp only [BitVec.getLsbD_shiftLeft, Bool.and_eq_true, decide_eq_true_eq, Bool.not_eq_true', decide_eq_false_iff_not, BitVec.getLsbD_one]
    omega
  · rename_i h
    simp
    omega
theorem named_l3 (k : Int) (l : List api_Node) (hl : l.length ≤ 65536) : ∀ (m i : Nat) (x : W32), i + m = l.length → ∃ x', graph_named_l3 k x l (l.length : Int) (i : Int) = some x' ∧ ∀ b, x'.getLsbD b = true ↔ x.getLsbD b = true ∨ (b < 32 ∧ ∃ j, i ≤ j ∧ j < l.length ∧ (List.getD l j d_api_Node).kind = k ∧ (List.getD l j d_api_Node).arg = (b : Int))
  | 0, i, x, h => by
    rw [graph_named_l3, if_neg (by simp only [decide_eq_true_eq]; omega)]
    exact ⟨x, rfl, fun b => ⟨.inl, fun h => h.elim id fun ⟨_, j, h1, h2, _⟩ => by omega⟩⟩
  | m + 1, i, x, h => by
    rw [graph_named_l3, if_pos (decide_eq_true (by omega)), if_pos (decide_eq_true (by omega)), if_pos (decide_eq_true (by omega)), Int.toNat_natCast, inc i (by omega)]
    by_cases hk : (List.getD l i d_api_Node).kind = k
    · rw [if_pos (eqT hk), bind_some (one_eq _)]
      obtain ⟨x', q1, q2⟩ := named_l3 k l hl m (i + 1) (x ||| one (List.getD l i d_api_Node).arg) (by omega)
      refine ⟨x', q1, fun b => ?_⟩
      rw [q2, BitVec.getLsbD_or, Bool.or_eq_true, one_bit]
      constructor
      · rintro ((h1 | ⟨h1, h2⟩) | ⟨h1, j, h2, h3⟩)
        · exact .inl h1
        · exact .inr ⟨h2, i, Nat.le_refl _, by omega, hk, h1⟩
        · exact .inr ⟨h1, j, by omega, h3⟩
      · rintro (h1 | ⟨h1, j, h2, h3, h4, h5⟩)
        · exact .inl (.inl h1)
        · rcases Nat.eq_or_lt_of_le h2 with rfl | h6
          · exact .inl (.inr ⟨h5, h1⟩)
          · exact .inr ⟨h1, j, h6, h3, h4, h5⟩
    · rw [if_neg (eqF hk)]
      obtain ⟨x', q1, q2⟩ := named_l3 k l hl m (i + 1) x (by omega)
      refine ⟨x', q1, fun b => ?_⟩
      rw [q2]
      constructor
      · rintro (h1 | ⟨h1, j, h2, h3⟩)
        · exact .inl h1
        · exact .inr ⟨h1, j, by omega, h3⟩
      · rintro (h1 | ⟨h1, j, h2, h3, h4, h5⟩)
        · exact .inl h1
        · rcases Nat.eq_or_lt_of_le h2 with rfl | h6
          · exact absurd h4 hk
          · exact .inr ⟨h1, j, h6, h3, h4, h5⟩
theorem named_eq (l : List api_Node) (k : Int) (hl : l.length ≤ 65536) : ∃ x, graph_named l k = some x ∧ ∀ b, x.getLsbD b = true ↔ b < 32 ∧ ∃ j, j < l.length ∧ (List.getD l j d_api_Node).kind = k ∧ (List.getD l j d_api_Node).arg = (b : Int) := by
  obtain ⟨x, q1, q2⟩ := named_l3 k l hl l.length 0 0#32 (by omega)
  rw [show ((0 : Nat) : Int) = 0 from rfl] at q1
  unfold graph_named
  rw [bind_some q1]
  exact ⟨x, rfl, fun b => by rw [q2]; simp⟩
theorem callees_l3 (fs : FS) (hn : fs.length ≤ 65536) (hlen : ∀ f, (List.getD fs f []).length ≤ 65536) : ∀ (m f : Nat) (t : List W32), f + m = fs.length → t.length = f → (∀ x b, x < f → ((List.getD t x 0#32).getLsbD b = true ↔ b < 32 ∧ Edge fs x b)) →
    ∃ t', graph_Callees_l3 t fs (fs.length : Int) (f : Int) = some t' ∧ t'.length = fs.length ∧ ∀ x b, x < fs.length → ((List.getD t' x 0#32).getLsbD b = true ↔ b < 32 ∧ Edge fs x b)
  | 0, f, t, h, h1, h2 => by
    rw [graph_Callees_l3, if_neg (by simp only [decide_eq_true_eq]; omega)]
    exact ⟨t, rfl, by omega, fun x b hx => h2 x b (by omega)⟩
  | m + 1, f, t, h, h1, h2 => by
    obtain ⟨x, q1, q2⟩ := named_eq (List.getD fs f []) 7 (hlen f)
    rw [graph_Callees_l3, if_pos (decide_eq_true (by omega)), if_pos (decide_eq_true (by omega)), if_pos (decide_eq_true (by omega)), Int.toNat_natCast, bind_some q1, if_pos (Nat.ble_eq_true_of_le (by simp only [List.length_singleton, reach]; omega)), inc f (by omega)]
    refine callees_l3 fs hn hlen m (f + 1) (t ++ [x]) (by omega) (by simp [h1]) fun y b hy => ?_
    rw [getD_snoc]
    split
    · rename_i e
      rw [q2]
      have : y = f := by omega
      subst this
      exact Iff.rfl
    · exact h2 y b (by omega)
theorem callees_eq (p : api_Program) (hn : p.funcs.length ≤ 65536) (hlen : ∀ f, (List.getD p.funcs f []).length ≤ 65536) : ∃ t, graph_Callees p = some t ∧ t.length = p.funcs.length ∧ ∀ x b, x < p.funcs.length → ((List.getD t x 0#32).getLsbD b = true ↔ b < 32 ∧ Edge p.funcs x b) := by
  obtain ⟨t, q1, q2⟩ := callees_l3 p.funcs hn hlen p.funcs.length 0 [] (by omega) rfl (fun x b hx => by omega)
  rw [show ((0 : Nat) : Int) = 0 from rfl] at q1
  unfold graph_Callees
  rw [bind_some q1]
  exact ⟨t, rfl, q2⟩
theorem refhas_l5 (k : Nat) (hk : k < 32) : ∀ (m i : Nat) (x : BitVec 64), i + m = k → alibiref03_Has_l5 (k : Int) x (i : Int) = some (x >>> m)
  | 0, i, x, h => by
    rw [alibiref03_Has_l5, if_neg (by simp only [decide_eq_true_eq]; omega)]
    simp
  | m + 1, i, x, h => by
    rw [alibiref03_Has_l5, if_pos (decide_eq_true (by omega)), inc i (by omega), refhas_l5 k hk m (i + 1) _ (by omega)]
    congr 1
    apply BitVec.eq_of_toNat_eq
    simp only [BitVec.toNat_ushiftRight, BitVec.toNat_udiv, Nat.shiftRight_eq_div_pow]
    rw [show (2#64).toNat = 2 from rfl, Nat.div_div_eq_div_mul, Nat.pow_succ, Nat.mul_comm]
theorem refhas_eq (m : W32) (id : Int) : alibiref03_Has m id = some (if 0 ≤ id ∧ id < 32 then m.getLsbD id.toNat else false) := by
  unfold alibiref03_Has
  by_cases h0 : id < 0
  · rw [if_pos (decide_eq_true h0), if_neg (by omega)]
  · rw [if_neg (by simpa using h0)]
    by_cases h1 : id > 31
    · rw [if_pos (decide_eq_true h1), if_neg (by omega)]
    · rw [if_neg (by simpa using h1), if_pos (by omega)]
      obtain ⟨k, rfl⟩ : ∃ k : Nat, id = (k : Int) := ⟨id.toNat, by omega⟩
      have := refhas_l5 k (by omega) k 0 (BitVec.setWidth 64 m) (by omega)
      rw [show ((0 : Nat) : Int) = 0 from rfl] at this
      rw [bind_some this, Int.toNat_natCast]
      congr 1
      rw [Bool.eq_iff_iff, beq_iff_eq]
      have e : ((BitVec.setWidth 64 m >>> k) % 2#64).toNat = (m.getLsbD k).toNat := by
        have e1 : (BitVec.setWidth 64 m).toNat = m.toNat := by
          rw [BitVec.toNat_setWidth]
          exact Nat.mod_eq_of_lt (by have := m.isLt; omega)
        rw [BitVec.toNat_umod, BitVec.toNat_ushiftRight, e1]
        show m.toNat >>> k % 2 = (m.toNat.testBit k).toNat
        rw [Nat.toNat_testBit, Nat.shiftRight_eq_div_pow]
      constructor
      · intro h
        rw [h] at e
        cases hm : m.getLsbD k with
        | true => rfl
        | false => rw [hm] at e; cases e
      · intro h
        apply BitVec.eq_of_toNat_eq
        rw [e, h]
        rfl
/-- Numbers that rise, from some on to below 32. -/
def Rises : Nat → List Int → Prop
  | _, [] => True
  | n, x :: l => (n : Int) ≤ x ∧ x < 32 ∧ Rises (x.toNat + 1) l
theorem mask_l7 (l : List Int) (x1 : BitVec 64) (i k : Nat) (hi : i < l.length) (hk : List.getD l i 0 = (k : Int)) (hk32 : k < 32) : ∀ (m j : Nat), j + m = k → alibiref03_Mask_l7 l x1 (i : Int) (BitVec.ofNat 64 (2 ^ j)) (j : Int) = some (BitVec.ofNat 64 (2 ^ k))
  | 0, j, h => by
    rw [alibiref03_Mask_l7, if_pos (decide_eq_true (by omega)), if_pos (decide_eq_true (by omega)), Int.toNat_natCast, hk, if_neg (by simp only [decide_eq_true_eq]; omega)]
    have : j = k := by omega
    rw [this]
  | m + 1, j, h => by
    rw [alibiref03_Mask_l7, if_pos (decide_eq_true (by omega)), if_pos (decide_eq_true (by omega)), Int.toNat_natCast, hk, if_pos (decide_eq_true (by omega)), inc j (by omega)]
    have e : BitVec.ofNat 64 (2 ^ j) * 2#64 = BitVec.ofNat 64 (2 ^ (j + 1)) := by
      rw [Nat.pow_succ]
      apply BitVec.eq_of_toNat_eq
      simp
    rw [e]
    exact mask_l7 l x1 i k hi hk hk32 m (j + 1) (by omega)
theorem mask_l3 (l : List Int) (hl : l.length ≤ 65536) : ∀ (m i n : Nat) (x : Nat), i + m = l.length → Rises n (l.drop i) → n ≤ 32 → x < 2 ^ n → ∃ x', alibiref03_Mask_l3 l (BitVec.ofNat 64 x) (i : Int) = some (BitVec.ofNat 64 x') ∧ x' < 2 ^ 32 ∧ ∀ b, x'.testBit b = true ↔ x.testBit b = true ∨ (b : Int) ∈ l.drop i
  | 0, i, n, x, h, hr, hn, hx => by
    rw [alibiref03_Mask_l3, if_neg (by simp only [decide_eq_true_eq]; omega), List.drop_eq_nil_of_le (by omega)]
    exact ⟨x, rfl, Nat.lt_of_lt_of_le hx (Nat.pow_le_pow_right (by decide) hn), fun b => by simp⟩
  | m + 1, i, n, x, h, hr, hn, hx => by
    have hlt : i < l.length := by omega
    have hd : l.drop i = l[i] :: l.drop (i + 1) := List.drop_eq_getElem_cons hlt
    have hg : List.getD l i 0 = l[i] := by simp [List.getD, hlt]
    rw [hd] at hr ⊢
    obtain ⟨r1, r2, r3⟩ := hr
    obtain ⟨k, hk⟩ : ∃ k : Nat, l[i] = (k : Int) := ⟨l[i].toNat, by omega⟩
    rw [hk] at r1 r2 r3 hg ⊢
    rw [Int.toNat_natCast] at r3
    have h7 := mask_l7 l (BitVec.ofNat 64 x) i k hlt hg (by omega) k 0 (by omega)
    rw [show ((0 : Nat) : Int) = 0 from rfl] at h7
    rw [alibiref03_Mask_l3, if_pos (decide_eq_true (by omega)), bind_some (show alibiref03_Mask_l7 l (BitVec.ofNat 64 x) (i : Int) (1#64) 0 = _ from h7), inc i (by omega), ← BitVec.ofNat_add]
    have hxk : x < 2 ^ k := Nat.lt_of_lt_of_le hx (Nat.pow_le_pow_right (by decide) (by omega))
    obtain ⟨x', q1, q2, q3⟩ := mask_l3 l hl m (i + 1) (k + 1) (x + 2 ^ k) (by omega) r3 (by omega) (by rw [Nat.pow_succ]; omega)
    refine ⟨x', q1, q2, fun b => ?_⟩
    rw [q3]
    have hor : x + 2 ^ k = 2 ^ k ||| x := by
      have := Nat.two_pow_add_eq_or_of_lt hxk 1
      rw [Nat.mul_one] at this
      rw [Nat.add_comm, this]
    rw [hor, Nat.testBit_or, Bool.or_eq_true, Nat.testBit_two_pow, decide_eq_true_eq, List.mem_cons]
    constructor
    · rintro ((h1 | h1) | h1)
      · exact .inr (.inl (by omega))
      · exact .inl h1
      · exact .inr (.inr h1)
    · rintro (h1 | h1 | h1)
      · exact .inl (.inr h1)
      · exact .inl (.inl (by omega))
      · exact .inr h1
theorem mask_eq (l : List Int) (hl : l.length ≤ 65536) (hr : Rises 0 l) : ∃ x, alibiref03_Mask l = some x ∧ ∀ b, x.getLsbD b = true ↔ (b : Int) ∈ l := by
  obtain ⟨x, q1, q2, q3⟩ := mask_l3 l hl l.length 0 0 0 (by omega) (by simpa using hr) (by omega) (by decide)
  unfold alibiref03_Mask
  rw [bind_some (show alibiref03_Mask_l3 l (0#64) 0 = _ from q1)]
  refine ⟨_, rfl, fun b => ?_⟩
  have e : (BitVec.setWidth 32 (BitVec.ofNat 64 x)).toNat = x := by
    rw [BitVec.toNat_setWidth, BitVec.toNat_ofNat]
    omega
  show (BitVec.setWidth 32 (BitVec.ofNat 64 x)).toNat.testBit b = true ↔ _
  rw [e, q3]
  simp
def succ (x : api_Node) : List Int := if x.kind = 9 then [] else if x.kind = 8 then [x.next, x.alt] else [x.next]
theorem awake06 : alibilaw06_awake = some true := alibilaw06_awake_le 40 _ (by kernel_rfl)
theorem Rises.mono {m n : Nat} (h : m ≤ n) : ∀ {l : List Int}, Rises n l → Rises m l
  | [], _ => trivial
  | x :: l, hr => ⟨by have := hr.1; omega, hr.2⟩
theorem or_step {b : Bool} {P : Prop} (hb : ¬ b = true) {c : Bool} (h : c = true ↔ P) : (c = true ↔ b = true ∨ P) := by rw [h]; simp [hb]
theorem Rises.nat {n : Nat} : ∀ {l : List Int}, Rises n l → ∀ x ∈ l, (n : Int) ≤ x ∧ x < 32
  | [], _, x, hx => by cases hx
  | y :: l, hr, x, hx => by
    obtain ⟨h1, h2, h3⟩ := hr
    rcases List.mem_cons.1 hx with rfl | hx
    · exact ⟨h1, h2⟩
    · have := Rises.nat h3 x hx; omega
theorem Rises.length_le {n : Nat} : ∀ {l : List Int}, Rises n l → n ≤ 32 → l.length + n ≤ 32
  | [], _, h => by simpa using h
  | y :: l, hr, h => by
    obtain ⟨h1, h2, h3⟩ := hr
    have := Rises.length_le h3 (by omega)
    rw [List.length_cons]
    omega
theorem refnamed_l7 (l : List api_Node) (hl : l.length ≤ 65536) (x0 : List Int) (k id : Int) : ∀ (m i : Nat) (b : Bool), i + m = l.length → ∃ b', alibiref06_Named_l7 x0 l k id b (i : Int) = some b' ∧ (b' = true ↔ b = true ∨ ∃ j, i ≤ j ∧ j < l.length ∧ (List.getD l j d_api_Node).kind = k ∧ (List.getD l j d_api_Node).arg = id)
  | 0, i, b, h => by
    rw [alibiref06_Named_l7, if_neg (by simp only [decide_eq_true_eq]; omega)]
    exact ⟨b, rfl, ⟨.inl, fun h => h.elim (fun x => x) fun ⟨j, h1, h2, _⟩ => by omega⟩⟩
  | m + 1, i, b, h => by
    rw [alibiref06_Named_l7, if_pos (decide_eq_true (by omega)), inc i (by omega)]
    have fin : ∀ b1, (b1 = true ↔ b = true ∨ ((List.getD l i d_api_Node).kind = k ∧ (List.getD l i d_api_Node).arg = id)) → ∃ b', alibiref06_Named_l7 x0 l k id b1 ((i + 1 : Nat) : Int) = some b' ∧ (b' = true ↔ b = true ∨ ∃ j, i ≤ j ∧ j < l.length ∧ (List.getD l j d_api_Node).kind = k ∧ (List.getD l j d_api_Node).arg = id) := by
      intro b1 hb1
      obtain ⟨b', q1, q2⟩ := refnamed_l7 l hl x0 k id m (i + 1) b1 (by omega)
      refine ⟨b', q1, ?_⟩
      rw [q2, hb1]
      constructor
      · rintro ((h1 | h1) | ⟨j, h1, h2⟩)
        · exact .inl h1
        · exact .inr ⟨i, Nat.le_refl _, by omega, h1⟩
        · exact .inr ⟨j, by omega, h2⟩
      · rintro (h1 | ⟨j, h1, h2, h3⟩)
        · exact .inl (.inl h1)
        · rcases Nat.eq_or_lt_of_le h1 with rfl | h4
          · exact .inl (.inr h3)
          · exact .inr ⟨j, h4, h2, h3⟩
    by_cases hb : b = true
    · rw [if_pos hb]
      exact fin true (by simp [hb])
    · rw [if_neg hb, if_pos (decide_eq_true (by omega)), if_pos (decide_eq_true (by omega)), Int.toNat_natCast]
      by_cases hk : (List.getD l i d_api_Node).kind = k
      · rw [if_pos (eqT hk)]
        exact fin _ (or_step hb (by rw [beq_iff_eq]; exact ⟨fun h => ⟨hk, h⟩, fun h => h.2⟩))
      · rw [if_neg (eqF hk)]
        exact fin _ (or_step hb ⟨(fun h => by cases h), fun h => absurd h.1 hk⟩)
theorem refnamed_l3 (l : List api_Node) (hl : l.length ≤ 65536) (k : Int) : ∀ (m i : Nat) (x0 : List Int), i + m = 32 → x0.length ≤ i → ∃ t, alibiref06_Named_l3 x0 l k (i : Int) = some (x0 ++ t) ∧ Rises i t ∧ ∀ b : Nat, (b : Int) ∈ t ↔ i ≤ b ∧ b < 32 ∧ ∃ j, j < l.length ∧ (List.getD l j d_api_Node).kind = k ∧ (List.getD l j d_api_Node).arg = (b : Int)
  | 0, i, x0, h, hx => by
    rw [alibiref06_Named_l3, if_neg (by simp only [decide_eq_true_eq]; omega)]
    exact ⟨[], by simp, trivial, fun b => by simp; omega⟩
  | m + 1, i, x0, h, hx => by
    obtain ⟨b, q1, q2⟩ := refnamed_l7 l hl x0 k (i : Int) l.length 0 false (by omega)
    rw [show ((0 : Nat) : Int) = 0 from rfl] at q1
    rw [alibiref06_Named_l3, if_pos (decide_eq_true (by omega)), bind_some q1, inc i (by omega)]
    have hb : b = true ↔ ∃ j, j < l.length ∧ (List.getD l j d_api_Node).kind = k ∧ (List.getD l j d_api_Node).arg = (i : Int) := by rw [q2]; simp
    by_cases hbt : b = true
    · rw [if_pos hbt, if_pos (Nat.ble_eq_true_of_le (by simp only [List.length_singleton, reach]; omega))]
      obtain ⟨t, g1, g2, g3⟩ := refnamed_l3 l hl k m (i + 1) (x0 ++ [(i : Int)]) (by omega) (by simp; omega)
      refine ⟨(i : Int) :: t, by rw [g1]; simp, ⟨Int.le_refl _, by omega, by rw [Int.toNat_natCast]; exact g2⟩, fun c => ?_⟩
      rw [List.mem_cons, g3]
      constructor
      · rintro (h1 | ⟨h1, h2, h3⟩)
        · have : c = i := by omega
          subst this
          exact ⟨Nat.le_refl _, by omega, hb.1 hbt⟩
        · exact ⟨by omega, h2, h3⟩
      · rintro ⟨h1, h2, h3⟩
        rcases Nat.eq_or_lt_of_le h1 with rfl | h4
        · exact .inl rfl
        · exact .inr ⟨h4, h2, h3⟩
    · rw [if_neg hbt]
      obtain ⟨t, g1, g2, g3⟩ := refnamed_l3 l hl k m (i + 1) x0 (by omega) (by omega)
      refine ⟨t, g1, g2.mono (by omega), fun c => ?_⟩
      rw [g3]
      constructor
      · rintro ⟨h1, h2, h3⟩; exact ⟨by omega, h2, h3⟩
      · rintro ⟨h1, h2, h3⟩
        rcases Nat.eq_or_lt_of_le h1 with rfl | h4
        · exact absurd (hb.2 h3) hbt
        · exact ⟨h4, h2, h3⟩
theorem refnamed_eq (l : List api_Node) (hl : l.length ≤ 65536) (k : Int) : ∃ t, alibiref06_Named l k = some t ∧ Rises 0 t ∧ ∀ b : Nat, (b : Int) ∈ t ↔ b < 32 ∧ ∃ j, j < l.length ∧ (List.getD l j d_api_Node).kind = k ∧ (List.getD l j d_api_Node).arg = (b : Int) := by
  obtain ⟨t, q1, q2, q3⟩ := refnamed_l3 l hl k 32 0 [] rfl (by simp)
  rw [show ((0 : Nat) : Int) = 0 from rfl, List.nil_append] at q1
  unfold alibiref06_Named
  rw [bind_some q1]
  exact ⟨t, rfl, q2, fun b => by rw [q3]; simp⟩
theorem reach_l4 (p : api_Program) (fr : List Int) (hfl : fr.length ≤ 65536) (hfr : ∀ x ∈ fr, 0 ≤ x) : ∀ (m i : Nat) (s : List Bool), i + m = fr.length → s.length = p.funcs.length → ∃ s', alibiref06_Reach_l4 s p.globals p.locks p.slots p.funcs fr (p.funcs.length : Int) (i : Int) = some s' ∧ s'.length = p.funcs.length ∧ ∀ y, Sn s' y ↔ Sn s y ∨ (y < p.funcs.length ∧ (y : Int) ∈ fr.drop i)
  | 0, i, s, h, hs => by
    rw [alibiref06_Reach_l4, if_neg (by simp only [decide_eq_true_eq]; omega), List.drop_eq_nil_of_le (by omega)]
    exact ⟨s, rfl, hs, fun y => by simp⟩
  | m + 1, i, s, h, hs => by
    have hlt : i < fr.length := by omega
    have hd : fr.drop i = fr[i] :: fr.drop (i + 1) := List.drop_eq_getElem_cons hlt
    have hg : List.getD fr i 0 = fr[i] := by simp [List.getD, hlt]
    have h0 := hfr _ (List.getElem_mem hlt)
    rw [alibiref06_Reach_l4, if_pos (decide_eq_true (by omega)), if_pos (decide_eq_true (by omega)), if_pos (decide_eq_true (by omega)), Int.toNat_natCast, hg, hd, inc i (by omega)]
    obtain ⟨x, hx⟩ : ∃ x : Nat, fr[i] = (x : Int) := ⟨fr[i].toNat, by omega⟩
    rw [hx]
    by_cases hxn : x < p.funcs.length
    · rw [if_pos (decide_eq_true (by omega)), if_pos (decide_eq_true (by omega)), if_pos (decide_eq_true (by omega)), Int.toNat_natCast]
      obtain ⟨s', q1, q2, q3⟩ := reach_l4 p fr hfl hfr m (i + 1) (s.set x true) (by omega) (by simpa using hs)
      refine ⟨s', q1, q2, fun y => ?_⟩
      rw [q3, Sn_set (by omega), List.mem_cons]
      constructor
      · rintro ((rfl | h1) | ⟨h1, h2⟩)
        · exact .inr ⟨hxn, .inl rfl⟩
        · exact .inl h1
        · exact .inr ⟨h1, .inr h2⟩
      · rintro (h1 | ⟨h1, h2 | h2⟩)
        · exact .inl (.inr h1)
        · exact .inl (.inl (by omega))
        · exact .inr ⟨h1, h2⟩
    · rw [if_neg (by simp only [decide_eq_true_eq]; omega)]
      obtain ⟨s', q1, q2, q3⟩ := reach_l4 p fr hfl hfr m (i + 1) s (by omega) hs
      refine ⟨s', q1, q2, fun y => ?_⟩
      rw [q3, List.mem_cons]
      constructor
      · rintro (h1 | ⟨h1, h2⟩)
        · exact .inl h1
        · exact .inr ⟨h1, .inr h2⟩
      · rintro (h1 | ⟨h1, h2 | h2⟩)
        · exact .inl h1
        · omega
        · exact .inr ⟨h1, h2⟩
theorem count_lt {s s' : List Bool} (hl : s.length = s'.length) (h : ∀ y, Sn s y → Sn s' y) {y : Nat} (h1 : ¬ Sn s y) (h2 : Sn s' y) : s'.count false + 1 ≤ s.count false := by
  have hy : y < s.length := by have := h2.lt; omega
  have h3 := count_set_true hy h1
  have h4 := count_mono (s.set y true) s' (by simpa using hl) fun x hx => by
    rcases (Sn_set hy).1 hx with rfl | hx
    · exact h2
    · exact h x hx
  omega
theorem reach_l22 (s : List Bool) (n : Nat) (hn : n ≤ 32) (hs : s.length = n) : ∀ (m f : Nat) (x0 : List Int), f + m = n → x0.length ≤ f → ∃ t, alibiref06_Reach_l22 s x0 (n : Int) (f : Int) = some (x0 ++ t) ∧ Rises f t ∧ ∀ b : Nat, (b : Int) ∈ t ↔ f ≤ b ∧ Sn s b
  | 0, f, x0, h, hx => by
    rw [alibiref06_Reach_l22, if_neg (by simp only [decide_eq_true_eq]; omega)]
    exact ⟨[], by simp, trivial, fun b => by simp; intro h1 h2; have := h2.lt; omega⟩
  | m + 1, f, x0, h, hx => by
    rw [alibiref06_Reach_l22, if_pos (decide_eq_true (by omega)), if_pos (decide_eq_true (by omega)), if_pos (decide_eq_true (by omega)), if_pos (decide_eq_true (by omega)), Int.toNat_natCast, inc f (by omega)]
    by_cases hf : Sn s f
    · rw [if_pos (show List.getD s f false = true from hf), if_pos (Nat.ble_eq_true_of_le (by simp only [List.length_singleton, reach]; omega))]
      obtain ⟨t, g1, g2, g3⟩ := reach_l22 s n hn hs m (f + 1) (x0 ++ [(f : Int)]) (by omega) (by simp; omega)
      refine ⟨(f : Int) :: t, by rw [g1]; simp, ⟨Int.le_refl _, by omega, by rw [Int.toNat_natCast]; exact g2⟩, fun b => ?_⟩
      rw [List.mem_cons, g3]
      constructor
      · rintro (h1 | ⟨h1, h2⟩)
        · have : b = f := by omega
          subst this
          exact ⟨Nat.le_refl _, hf⟩
        · exact ⟨by omega, h2⟩
      · rintro ⟨h1, h2⟩
        rcases Nat.eq_or_lt_of_le h1 with rfl | h3
        · exact .inl rfl
        · exact .inr ⟨h3, h2⟩
    · rw [if_neg (show ¬ List.getD s f false = true from hf)]
      obtain ⟨t, g1, g2, g3⟩ := reach_l22 s n hn hs m (f + 1) x0 (by omega) (by omega)
      refine ⟨t, g1, g2.mono (by omega), fun b => ?_⟩
      rw [g3]
      constructor
      · rintro ⟨h1, h2⟩; exact ⟨by omega, h2⟩
      · rintro ⟨h1, h2⟩
        rcases Nat.eq_or_lt_of_le h1 with rfl | h3
        · exact absurd h2 hf
        · exact ⟨h3, h2⟩
theorem begun_l3 (fs : FS) (hn : fs.length ≤ 65536) (hlen : ∀ f, (List.getD fs f []).length ≤ 65536) : ∀ (m i : Nat) (x : W32), i + m = fs.length → ∃ x', graph_Begun_l3 x fs (fs.length : Int) (i : Int) = some x' ∧ ∀ b, x'.getLsbD b = true ↔ x.getLsbD b = true ∨ (b < 32 ∧ ∃ g, i ≤ g ∧ g < fs.length ∧ ∃ j, j < (List.getD fs g []).length ∧ (List.getD (List.getD fs g []) j d_api_Node).kind = 5 ∧ (List.getD (List.getD fs g []) j d_api_Node).arg = (b : Int))
  | 0, i, x, h => by
    rw [graph_Begun_l3, if_neg (by simp only [decide_eq_true_eq]; omega)]
    exact ⟨x, rfl, fun b => ⟨.inl, fun h => h.elim (fun x => x) fun ⟨_, g, h1, h2, _⟩ => by omega⟩⟩
  | m + 1, i, x, h => by
    obtain ⟨y, q1, q2⟩ := named_eq (List.getD fs i []) 5 (hlen i)
    rw [graph_Begun_l3, if_pos (decide_eq_true (by omega)), if_pos (decide_eq_true (by omega)), if_pos (decide_eq_true (by omega)), Int.toNat_natCast, bind_some q1, inc i (by omega)]
    obtain ⟨x', g1, g2⟩ := begun_l3 fs hn hlen m (i + 1) (x ||| y) (by omega)
    refine ⟨x', g1, fun b => ?_⟩
    rw [g2, BitVec.getLsbD_or, Bool.or_eq_true, q2]
    constructor
    · rintro ((h1 | ⟨h1, h2⟩) | ⟨h1, g, h2, h3⟩)
      · exact .inl h1
      · exact .inr ⟨h1, i, Nat.le_refl _, by omega, h2⟩
      · exact .inr ⟨h1, g, by omega, h3⟩
    · rintro (h1 | ⟨h1, g, h2, h3, h4⟩)
      · exact .inl (.inl h1)
      · rcases Nat.eq_or_lt_of_le h2 with rfl | h5
        · exact .inl (.inr ⟨h1, h4⟩)
        · exact .inr ⟨h1, g, h5, h3, h4⟩
theorem reflist_l3 (m : W32) : ∀ (k i : Nat) (t : List Int), i + k = 32 → t.length ≤ i → ∃ s, alibiref03_List_l3 t m (i : Int) = some (t ++ s) ∧ Rises i s ∧ ∀ b : Nat, (b : Int) ∈ s ↔ i ≤ b ∧ b < 32 ∧ m.getLsbD b = true
  | 0, i, t, h, ht => by
    rw [alibiref03_List_l3, if_neg (by simp only [decide_eq_true_eq]; omega)]
    exact ⟨[], by simp, trivial, fun b => by simp; omega⟩
  | k + 1, i, t, h, ht => by
    rw [alibiref03_List_l3, if_pos (decide_eq_true (by omega)), bind_some (refhas_eq m (i : Int)), if_pos (show 0 ≤ (i : Int) ∧ (i : Int) < 32 by omega), Int.toNat_natCast, inc i (by omega)]
    by_cases c : m.getLsbD i = true
    · rw [if_pos c, if_pos (Nat.ble_eq_true_of_le (by simp only [List.length_singleton, reach]; omega))]
      obtain ⟨s, q1, q2, q3⟩ := reflist_l3 m k (i + 1) (t ++ [(i : Int)]) (by omega) (by simp; omega)
      refine ⟨(i : Int) :: s, by rw [q1]; simp, ⟨Int.le_refl _, by omega, by rw [Int.toNat_natCast]; exact q2⟩, fun b => ?_⟩
      rw [List.mem_cons, q3]
      constructor
      · rintro (h1 | ⟨h1, h2⟩)
        · have : b = i := by omega
          subst this
          exact ⟨Nat.le_refl _, by omega, c⟩
        · exact ⟨by omega, h2⟩
      · rintro ⟨h1, h2⟩
        rcases Nat.eq_or_lt_of_le h1 with rfl | h4
        · exact .inl rfl
        · exact .inr ⟨h4, h2⟩
    · rw [if_neg c]
      obtain ⟨s, q1, q2, q3⟩ := reflist_l3 m k (i + 1) t (by omega) (by omega)
      refine ⟨s, q1, q2.mono (by omega), fun b => ?_⟩
      rw [q3]
      constructor
      · rintro ⟨h1, h2⟩; exact ⟨by omega, h2⟩
      · rintro ⟨h1, h2, h3⟩
        rcases Nat.eq_or_lt_of_le h1 with rfl | h4
        · exact absurd h3 c
        · exact ⟨h4, h2, h3⟩
theorem reflist_eq (m : W32) : ∃ s, alibiref03_List m = some s ∧ Rises 0 s ∧ ∀ b : Nat, (b : Int) ∈ s ↔ b < 32 ∧ m.getLsbD b = true := by
  obtain ⟨s, s1, s2, s3⟩ := reflist_l3 m 32 0 [] rfl (Nat.le_refl _)
  rw [show ((0 : Nat) : Int) = 0 from rfl, List.nil_append] at s1
  unfold alibiref03_List
  rw [bind_some s1]
  exact ⟨s, rfl, s2, fun b => by rw [s3]; exact ⟨fun h => h.2, fun h => ⟨Nat.zero_le _, h⟩⟩⟩
/-- The lowest bit. -/
def Low (x : W32) (k : Nat) : Prop := k < 32 ∧ x.getLsbD k = true ∧ ∀ j, j < k → ¬ x.getLsbD j = true
theorem low_ex_aux (x : W32) : ∀ (m i : Nat), (∀ j, j < i → ¬ x.getLsbD j = true) → i + m = 32 → (∃ k, Low x k) ∨ ∀ j, j < 32 → ¬ x.getLsbD j = true
  | 0, i, h, e => .inr fun j hj => h j (by omega)
  | m + 1, i, h, e => by
    by_cases c : x.getLsbD i = true
    · exact .inl ⟨i, by omega, c, h⟩
    · exact low_ex_aux x m (i + 1) (fun j hj => by
        rcases Nat.lt_or_ge j i with h1 | h1
        · exact h j h1
        · rw [show j = i by omega]; exact c) (by omega)
theorem low_ex {x : W32} (h : x ≠ 0#32) : ∃ k, Low x k := by
  rcases low_ex_aux x 32 0 (fun j hj => by omega) rfl with h1 | h1
  · exact h1
  · refine absurd (BitVec.eq_of_getLsbD_eq fun i hi => ?_) h
    have h2 := h1 i hi
    rw [Bool.not_eq_true] at h2
    rw [h2]
    simp
theorem low_below {x : W32} {k : Nat} (h : Low x k) (i : Nat) : (∃ j, j < i ∧ x.getLsbD j = true) ↔ k < i := by
  constructor
  · rintro ⟨j, h1, h2⟩
    rcases Nat.lt_or_ge k i with h3 | h3
    · exact h3
    · exact absurd h2 (h.2.2 j (by omega))
  · exact fun h1 => ⟨k, h1, h.2.1⟩
theorem low_neg {x : W32} {k : Nat} (h : Low x k) : x &&& (-x) = BitVec.twoPow 32 k := by
  refine BitVec.eq_of_getLsbD_eq fun i hi => ?_
  rw [BitVec.getLsbD_and, BitVec.getLsbD_neg, BitVec.getLsbD_twoPow]
  have h1 := low_below h i
  by_cases c : k < i
  · have : decide (∃ j, j < i ∧ x.getLsbD j = true) = true := decide_eq_true (h1.2 c)
    rw [this]
    have : decide (k = i) = false := decide_eq_false (by omega)
    rw [this]
    cases x.getLsbD i <;> simp [hi]
  · have : decide (∃ j, j < i ∧ x.getLsbD j = true) = false := decide_eq_false fun hh => c (h1.1 hh)
    rw [this]
    by_cases e : k = i
    · subst e
      rw [h.2.1]
      simp [h.1]
    · have h2 : x.getLsbD i = false := by
        rw [← Bool.not_eq_true]
        exact h.2.2 i (by omega)
      rw [h2]
      simp [e]
theorem low_clear {x : W32} {k : Nat} (h : Low x k) (i : Nat) : (x &&& (x - 1#32)).getLsbD i = true ↔ x.getLsbD i = true ∧ i ≠ k := by
  rw [← BitVec.not_neg, BitVec.getLsbD_and, BitVec.getLsbD_not, BitVec.getLsbD_neg]
  have h1 := low_below h i
  by_cases hi : i < 32
  · by_cases c : k < i
    · have : decide (∃ j, j < i ∧ x.getLsbD j = true) = true := decide_eq_true (h1.2 c)
      rw [this]
      have : i ≠ k := by omega
      cases x.getLsbD i <;> simp [hi, this]
    · have : decide (∃ j, j < i ∧ x.getLsbD j = true) = false := decide_eq_false fun hh => c (h1.1 hh)
      rw [this]
      by_cases e : i = k
      · subst e
        rw [h.2.1]
        simp
      · have h2 : x.getLsbD i = false := by
          rw [← Bool.not_eq_true]
          exact h.2.2 i (by omega)
        rw [h2]
        simp
  · have h2 : x.getLsbD i = false := BitVec.getLsbD_of_ge _ _ (by omega)
    rw [h2]
    simp
theorem bruijn_all : ∀ k : Fin 32, (BitVec.toNat (((BitVec.twoPow 32 k.val) * (125613361#32)) >>> (BitVec.toNat (27#64))) < 32) ∧ BitVec.toNat (tab_0 (BitVec.toNat (((BitVec.twoPow 32 k.val) * (125613361#32)) >>> (BitVec.toNat (27#64))))) = k.val := by decide +kernel
theorem tz_eq {x : W32} {k : Nat} (h : Low x k) : math_bits_TrailingZeros32 x = some (k : Int) := by
  have hx : ¬ (x == 0#32) = true := fun hh => by
    have h2 := h.2.1
    rw [beq_iff_eq.1 hh] at h2
    simp at h2
  obtain ⟨t1, t2⟩ := bruijn_all ⟨k, h.1⟩
  simp only [] at t1 t2
  unfold math_bits_TrailingZeros32
  rw [if_neg hx, low_neg h, if_pos (decide_eq_true (by omega)), Int.toNat_natCast, t2]
theorem least_low {x : W32} {k : Nat} (h : Low x k) : sets_Least x = some (k : Int) := by
  have hx : ¬ (x == 0#32) = true := fun hh => by
    have h2 := h.2.1
    rw [beq_iff_eq.1 hh] at h2
    simp at h2
  unfold sets_Least
  rw [if_neg hx, bind_some (tz_eq h)]
theorem list_l2 : ∀ (d : Nat) (x : W32) (t : List Int), x.toNat ≤ d → (∀ i, i < t.length → ¬ x.getLsbD i = true) → t.length ≤ 32 → ∃ o, sets_List_l2 t x = some o ∧ o.length ≤ 32 ∧ ∀ y : Int, y ∈ o ↔ y ∈ t ∨ ∃ b : Nat, y = (b : Int) ∧ x.getLsbD b = true
  | d, x, t, hd, hl, ht => by
    by_cases hz : x = 0#32
    · rw [sets_List_l2, if_neg (by simpa using hz)]
      exact ⟨t, rfl, ht, fun y => ⟨.inl, fun h => h.elim id fun ⟨b, _, hb⟩ => by rw [hz] at hb; simp at hb⟩⟩
    · obtain ⟨k, hk⟩ := low_ex hz
      have hkt : t.length ≤ k := by
        rcases Nat.lt_or_ge k t.length with h | h
        · exact absurd hk.2.1 (hl k h)
        · exact h
      have hk32 := hk.1
      have hlt : (x &&& (x - 1#32)).toNat < x.toNat := by
        rcases Nat.lt_or_ge (x &&& (x - 1#32)).toNat x.toNat with h | h
        · exact h
        · have hle : (x &&& (x - 1#32)).toNat ≤ x.toNat := by rw [BitVec.toNat_and]; exact Nat.and_le_left
          have e : x &&& (x - 1#32) = x := BitVec.eq_of_toNat_eq (by omega)
          have := (low_clear hk k).1 (by rw [e]; exact hk.2.1)
          exact absurd rfl this.2
      match d, hd with
      | 0, hd => omega
      | d + 1, hd =>
        rw [sets_List_l2, if_pos (by simpa using hz), bind_some (least_low hk), if_pos (Nat.ble_eq_true_of_le (by simp only [List.length_singleton, reach]; omega))]
        obtain ⟨o, o1, o2, o3⟩ := list_l2 d (x &&& (x - 1#32)) (t ++ [(k : Int)]) (by omega) (fun i hi h => by
          rw [List.length_append, List.length_singleton] at hi
          obtain ⟨h1, h2⟩ := (low_clear hk i).1 h
          exact hk.2.2 i (by omega) h1) (by rw [List.length_append, List.length_singleton]; omega)
        refine ⟨o, o1, o2, fun y => ?_⟩
        rw [o3, List.mem_append, List.mem_singleton]
        constructor
        · rintro ((h | h) | ⟨b, h1, h2⟩)
          · exact .inl h
          · exact .inr ⟨k, h, hk.2.1⟩
          · exact .inr ⟨b, h1, ((low_clear hk b).1 h2).1⟩
        · rintro (h | ⟨b, h1, h2⟩)
          · exact .inl (.inl h)
          · by_cases e : b = k
            · exact .inl (.inr (by rw [h1, e]))
            · exact .inr ⟨b, h1, (low_clear hk b).2 ⟨h2, e⟩⟩
theorem list_eq (x : W32) : ∃ o, sets_List x = some o ∧ o.length ≤ 32 ∧ ∀ y : Int, y ∈ o ↔ ∃ b : Nat, y = (b : Int) ∧ x.getLsbD b = true := by
  obtain ⟨o, o1, o2, o3⟩ := list_l2 x.toNat x [] (Nat.le_refl _) (fun i hi => by simp at hi) (by simp)
  unfold sets_List
  rw [bind_some o1]
  exact ⟨o, rfl, o2, fun y => by rw [o3]; simp⟩
def allM (n : Nat) : W32 := BitVec.setWidth 32 (((1#64) <<< n) - (1#64))
theorem allM_fin : ∀ n : Fin 33, ∀ i : Fin 32, (allM n.val).getLsbD i.val = decide (i.val < n.val) := by decide +kernel
theorem allM_bit {n : Nat} (hn : n ≤ 32) (b : Nat) : (allM n).getLsbD b = true ↔ b < n := by
  by_cases hb : b < 32
  · rw [allM_fin ⟨n, by omega⟩ ⟨b, hb⟩, decide_eq_true_iff]
  · rw [BitVec.getLsbD_of_ge _ _ (by omega)]
    constructor
    · intro h; cases h
    · intro h; omega
theorem sall_eq (n : Nat) (hn : n ≤ 32) : sets_All (n : Int) = some (allM n) := by
  unfold sets_All
  have h1 : ¬ (32 : Int) < (n : Int) := by omega
  have h2 : ¬ (0 : Int) > (n : Int) := by omega
  simp only [if_neg h1, if_neg h2]
  rw [if_pos (decide_eq_true (by omega)), Int.toNat_natCast]
  rfl
/-- Comes to, by calls within the program. -/
inductive Rt (C : List W32) : Nat → Nat → Prop
  | refl (a : Nat) : Rt C a a
  | step (a b c : Nat) : b < C.length → (List.getD C a 0#32).getLsbD b = true → Rt C b c → Rt C a c
theorem rt_in {C : List W32} {m : W32} (h : ∀ a, m.getLsbD a = true → ∀ b, b < C.length → (List.getD C a 0#32).getLsbD b = true → m.getLsbD b = true) {a b : Nat} (hr : Rt C a b) : m.getLsbD a = true → m.getLsbD b = true := by
  induction hr with
  | refl a => exact id
  | step a b c h1 h2 _ ih => exact fun ha => ih (h a ha b h1 h2)
theorem rt_trans {C : List W32} {a b c : Nat} (h : Rt C a b) (h2 : Rt C b c) : Rt C a c := by
  induction h with
  | refl a => exact h2
  | step a b d h1 h3 _ ih => exact .step a b _ h1 h3 (ih h2)
theorem rt_lt {C : List W32} {a b : Nat} (h : Rt C a b) (ha : a < C.length) : b < C.length := by
  induction h with
  | refl a => exact ha
  | step a b d h1 h3 _ ih => exact ih h1
theorem l5_eq (C : List W32) (hC : C.length ≤ 32) (t : List Int) (ht : t.length ≤ 32) (hr : ∀ y ∈ t, 0 ≤ y ∧ y < (C.length : Int)) (x2 : W32) : ∀ (m j : Nat) (x3 : W32), j + m = t.length → ∃ y, graph_Reach_l5 C t x2 x3 (t.length : Int) (j : Int) = some y ∧ ∀ b, y.getLsbD b = true ↔ x3.getLsbD b = true ∨ ∃ i, j ≤ i ∧ i < t.length ∧ b < C.length ∧ (List.getD C (List.getD t i 0).toNat 0#32).getLsbD b = true
  | 0, j, x3, h => by
    rw [graph_Reach_l5, if_neg (by simp only [decide_eq_true_eq]; omega)]
    exact ⟨x3, rfl, fun b => ⟨.inl, fun h => h.elim id fun ⟨i, h1, h2, _⟩ => by omega⟩⟩
  | m + 1, j, x3, h => by
    have hj : j < t.length := by omega
    have hm : List.getD t j 0 ∈ t := by
      rw [show List.getD t j 0 = t[j] by simp [List.getD, hj]]
      exact List.getElem_mem _
    have hb := hr _ hm
    obtain ⟨y, y1, y2⟩ := l5_eq C hC t ht hr x2 m (j + 1) (x3 ||| ((List.getD C (List.getD t j 0).toNat 0#32) &&& allM C.length)) (by omega)
    rw [graph_Reach_l5, if_pos (decide_eq_true (by omega)), if_pos (decide_eq_true (by omega)), if_pos (decide_eq_true (by omega)), Int.toNat_natCast, if_pos (decide_eq_true hb.1), if_pos (decide_eq_true hb.2), bind_some (sall_eq _ hC), inc j (by omega)]
    refine ⟨y, y1, fun b => ?_⟩
    rw [y2, BitVec.getLsbD_or, Bool.or_eq_true, BitVec.getLsbD_and, Bool.and_eq_true, allM_bit hC]
    constructor
    · rintro ((h1 | ⟨h1, h2⟩) | ⟨i, h1, h2, h3⟩)
      · exact .inl h1
      · exact .inr ⟨j, Nat.le_refl _, hj, h2, h1⟩
      · exact .inr ⟨i, by omega, h2, h3⟩
    · rintro (h1 | ⟨i, h1, h2, h3, h4⟩)
      · exact .inl (.inl h1)
      · rcases Nat.eq_or_lt_of_le h1 with rfl | h5
        · exact .inl (.inr ⟨h4, h3⟩)
        · exact .inr ⟨i, h5, h2, h3, h4⟩
theorem reach_l3 (C : List W32) (hC : C.length ≤ 32) : ∀ (d : Nat) (m : W32), 2 ^ 32 - m.toNat ≤ d → (∀ b, m.getLsbD b = true → b < C.length) → ∃ R, graph_Reach_l3 C m = some R ∧ ∀ b, R.getLsbD b = true ↔ ∃ a, m.getLsbD a = true ∧ Rt C a b
  | 0, m, hd, hm => by have := m.isLt; omega
  | d + 1, m, hd, hm => by
    obtain ⟨t, t1, t2, t3⟩ := list_eq m
    obtain ⟨y, y1, y2⟩ := l5_eq C hC t t2 (fun y hy => by
      obtain ⟨b, e, hb⟩ := (t3 y).1 hy
      have := hm b hb
      omega) m t.length 0 m (Nat.zero_add _)
    rw [show ((0 : Nat) : Int) = 0 from rfl] at y1
    have y3 : ∀ b, y.getLsbD b = true ↔ m.getLsbD b = true ∨ ∃ a, m.getLsbD a = true ∧ b < C.length ∧ (List.getD C a 0#32).getLsbD b = true := fun b => by
      rw [y2]
      constructor
      · rintro (h | ⟨i, _, h1, h2, h3⟩)
        · exact .inl h
        · have hmem : List.getD t i 0 ∈ t := by
            rw [show List.getD t i 0 = t[i] by simp [List.getD, h1]]
            exact List.getElem_mem _
          obtain ⟨a, e, ha⟩ := (t3 _).1 hmem
          rw [e, Int.toNat_natCast] at h3
          exact .inr ⟨a, ha, h2, h3⟩
      · rintro (h | ⟨a, h1, h2, h3⟩)
        · exact .inl h
        · obtain ⟨i, hi, e⟩ := List.mem_iff_getElem.1 ((t3 (a : Int)).2 ⟨a, rfl, h1⟩)
          refine .inr ⟨i, Nat.zero_le _, hi, h2, ?_⟩
          rw [show List.getD t i 0 = (a : Int) by simp [List.getD, hi, e], Int.toNat_natCast]
          exact h3
    rw [graph_Reach_l3, bind_some t1, bind_some y1]
    by_cases he : y = m
    · rw [if_pos (beq_iff_eq.2 he)]
      refine ⟨m, rfl, fun b => ⟨fun h => ⟨b, h, .refl b⟩, fun ⟨a, ha, hr⟩ => rt_in (fun a ha b hb hc => ?_) hr ha⟩⟩
      rw [← he]
      exact (y3 b).2 (.inr ⟨a, ha, hb, hc⟩)
    · rw [if_neg (fun h => he (beq_iff_eq.1 h))]
      have hle : m.toNat ≤ y.toNat := by
        have e : y = m ||| y := BitVec.eq_of_getLsbD_eq fun i hi => by
          rw [BitVec.getLsbD_or]
          cases hmi : m.getLsbD i with
          | false => simp
          | true => rw [(y3 i).2 (.inl hmi)]; rfl
        rw [e, BitVec.toNat_or]
        exact Nat.left_le_or
      have hlt : m.toNat < y.toNat := by
        rcases Nat.lt_or_ge m.toNat y.toNat with h | h
        · exact h
        · exact absurd (BitVec.eq_of_toNat_eq (by omega)) he
      have hy := y.isLt
      obtain ⟨R, r1, r2⟩ := reach_l3 C hC d y (by omega) fun b hb => by
        rcases (y3 b).1 hb with h | ⟨_, _, h, _⟩
        · exact hm b h
        · exact h
      refine ⟨R, r1, fun b => ?_⟩
      rw [r2]
      constructor
      · rintro ⟨a, ha, hr⟩
        rcases (y3 a).1 ha with h | ⟨a0, h0, h1, h2⟩
        · exact ⟨a, h, hr⟩
        · exact ⟨a0, h0, .step _ _ _ h1 h2 hr⟩
      · rintro ⟨a, ha, hr⟩
        exact ⟨a, (y3 a).2 (.inl ha), hr⟩
theorem reachL_eq (p : api_Program) {C : List W32} (hc : graph_Callees p = some C) (hC : C.length ≤ 32) (from_ : W32) : ∃ R, graph_Reach p from_ = some R ∧ ∀ b, R.getLsbD b = true ↔ ∃ a, a < C.length ∧ from_.getLsbD a = true ∧ Rt C a b := by
  obtain ⟨R, r1, r2⟩ := reach_l3 C hC (2 ^ 32) (from_ &&& allM C.length) (by omega) fun b hb => by
    rw [BitVec.getLsbD_and, Bool.and_eq_true, allM_bit hC] at hb
    exact hb.2
  unfold graph_Reach
  rw [bind_some hc, bind_some (sall_eq _ hC), bind_some r1]
  refine ⟨R, rfl, fun b => ?_⟩
  rw [r2]
  constructor
  · rintro ⟨a, ha, hr⟩
    rw [BitVec.getLsbD_and, Bool.and_eq_true, allM_bit hC] at ha
    exact ⟨a, ha.2, ha.1, hr⟩
  · rintro ⟨a, h1, h2, hr⟩
    refine ⟨a, ?_, hr⟩
    rw [BitVec.getLsbD_and, Bool.and_eq_true, allM_bit hC]
    exact ⟨h2, h1⟩
theorem bits_eq {x y : W32} (h : ∀ b, x.getLsbD b = true ↔ y.getLsbD b = true) : x = y := BitVec.eq_of_getLsbD_eq fun i _ => Bool.eq_iff_iff.2 (h i)
/-- Calls within the program. -/
def EG (p : api_Program) (x y : Nat) : Prop := y < p.funcs.length ∧ Edge p.funcs x y
theorem reach_l16G (calls : List Int) (hcl : calls.length ≤ 65536) (n f : Nat) (hf : f < n) (hcr : ∀ x ∈ calls, 0 ≤ x) (x2 x3 x4 : Int) (x5 : FS) (x7 : Int) : ∀ (m i : Nat) (s : List Bool), i + m = calls.length → s.length = n → ∃ s', alibiref06_Reach_l16 s calls x2 x3 x4 x5 (n : Int) x7 (f : Int) (i : Int) = some s' ∧ s'.length = n ∧ ∀ y, Sn s' y ↔ Sn s y ∨ (Sn s f ∧ y < n ∧ (y : Int) ∈ calls.drop i)
  | 0, i, s, h, hs => by
    rw [alibiref06_Reach_l16, if_neg (by simp only [decide_eq_true_eq]; omega), List.drop_eq_nil_of_le (by omega)]
    exact ⟨s, rfl, hs, fun y => by simp⟩
  | m + 1, i, s, h, hs => by
    have hlt : i < calls.length := by omega
    have hd : calls.drop i = calls[i] :: calls.drop (i + 1) := List.drop_eq_getElem_cons hlt
    have hg : List.getD calls i 0 = calls[i] := by simp [List.getD, hlt]
    have h0 := hcr _ (List.getElem_mem hlt)
    rw [alibiref06_Reach_l16, if_pos (decide_eq_true (by omega)), if_pos (decide_eq_true (by omega)), if_pos (decide_eq_true (by omega)), inc i (by omega)]
    rw [Int.toNat_natCast f, Int.toNat_natCast i]
    by_cases hsf : Sn s f
    · rw [if_pos (show List.getD s f false = true from hsf), if_pos (decide_eq_true (by omega)), if_pos (decide_eq_true (by omega)), hg, hd]
      obtain ⟨x, hx⟩ : ∃ x : Nat, calls[i] = (x : Int) := ⟨calls[i].toNat, by omega⟩
      rw [hx] at h0 ⊢
      by_cases hxn : x < n
      · rw [if_pos (decide_eq_true (by omega)), if_pos (decide_eq_true (by omega)), if_pos (decide_eq_true (by omega)), Int.toNat_natCast]
        obtain ⟨s', q1, q2, q3⟩ := reach_l16G calls hcl n f hf hcr x2 x3 x4 x5 x7 m (i + 1) (s.set x true) (by omega) (by simpa using hs)
        refine ⟨s', q1, q2, fun y => ?_⟩
        rw [q3, Sn_set (by omega), Sn_set (by omega), List.mem_cons]
        constructor
        · rintro ((rfl | h1) | ⟨_, h2, h3⟩)
          · exact .inr ⟨hsf, hxn, .inl rfl⟩
          · exact .inl h1
          · exact .inr ⟨hsf, h2, .inr h3⟩
        · rintro (h1 | ⟨h1, h2, h3 | h3⟩)
          · exact .inl (.inr h1)
          · exact .inl (.inl (by omega))
          · exact .inr ⟨.inr h1, h2, h3⟩
      · rw [if_neg (by simp only [decide_eq_true_eq]; omega)]
        obtain ⟨s', q1, q2, q3⟩ := reach_l16G calls hcl n f hf hcr x2 x3 x4 x5 x7 m (i + 1) s (by omega) hs
        refine ⟨s', q1, q2, fun y => ?_⟩
        rw [q3, List.mem_cons]
        constructor
        · rintro (h1 | ⟨h1, h2, h3⟩)
          · exact .inl h1
          · exact .inr ⟨h1, h2, .inr h3⟩
        · rintro (h1 | ⟨h1, h2, h3 | h3⟩)
          · exact .inl h1
          · omega
          · exact .inr ⟨h1, h2, h3⟩
    · rw [if_neg (show ¬ List.getD s f false = true from hsf)]
      obtain ⟨s', q1, q2, q3⟩ := reach_l16G calls hcl n f hf hcr x2 x3 x4 x5 x7 m (i + 1) s (by omega) hs
      refine ⟨s', q1, q2, fun y => ?_⟩
      rw [q3]
      simp [hsf]
theorem reach_l12G (p : api_Program) (hn : p.funcs.length ≤ 32) (hle : ∀ f, (List.getD p.funcs f []).length ≤ 65536) (x6 : Int) : ∀ (m f : Nat) (s : List Bool), f + m = p.funcs.length → s.length = p.funcs.length → ∃ s', alibiref06_Reach_l12 s p.globals p.locks p.slots p.funcs (p.funcs.length : Int) x6 (f : Int) = some s' ∧ s'.length = p.funcs.length ∧ (∀ y, Sn s y → Sn s' y) ∧ (∀ Q : Nat → Prop, (∀ x y, Q x → EG p x y → Q y) → (∀ y, Sn s y → Q y) → ∀ y, Sn s' y → Q y) ∧ ∀ x y, f ≤ x → Sn s x → EG p x y → Sn s' y
  | 0, f, s, h, hs => by
    rw [alibiref06_Reach_l12, if_neg (by simp only [decide_eq_true_eq]; omega)]
    exact ⟨s, rfl, hs, fun y h => h, fun Q _ h => h, fun x y hx hsx _ => by have := hsx.lt; omega⟩
  | m + 1, f, s, h, hs => by
    obtain ⟨t, q1, q2, q3⟩ := refnamed_eq (List.getD p.funcs f []) (hle f) 7
    have hmem : ∀ b : Nat, (b < p.funcs.length ∧ (b : Int) ∈ t) ↔ EG p f b := fun b => ⟨fun h => ⟨h.1, ((q3 b).1 h.2).2⟩, fun h => ⟨h.1, (q3 b).2 ⟨by have := h.1; omega, h.2⟩⟩⟩
    have htn := q2.nat
    have htl := q2.length_le (by omega)
    obtain ⟨s1, g1, g2, g3⟩ := reach_l16G t (by omega) p.funcs.length f (by omega) (fun x hx => by have := htn x hx; omega) p.globals p.locks p.slots p.funcs x6 t.length 0 s (by omega) hs
    rw [show ((0 : Nat) : Int) = 0 from rfl] at g1
    rw [alibiref06_Reach_l12, if_pos (decide_eq_true (by omega)), if_pos (decide_eq_true (by omega)), if_pos (decide_eq_true (by omega)), Int.toNat_natCast, bind_some q1, bind_some g1, inc f (by omega)]
    obtain ⟨s', k1, k2, k3, k4, k5⟩ := reach_l12G p hn hle x6 m (f + 1) s1 (by omega) g2
    refine ⟨s', k1, k2, fun y hy => k3 y ((g3 y).2 (.inl hy)), fun Q hQ hsQ => k4 Q hQ fun y hy => ?_, fun x y hx hsx e => ?_⟩
    · rcases (g3 y).1 hy with h1 | ⟨h1, h3, h2⟩
      · exact hsQ y h1
      · rw [List.drop_zero] at h2
        exact hQ f y (hsQ f h1) ((hmem y).1 ⟨h3, h2⟩)
    · rcases Nat.eq_or_lt_of_le hx with rfl | hx
      · exact k3 y ((g3 y).2 (.inr ⟨hsx, e.1, by rw [List.drop_zero]; exact ((hmem y).2 e).2⟩))
      · exact k5 x y hx ((g3 x).2 (.inl hsx)) e
def ClosedG (p : api_Program) (s : List Bool) : Prop := ∀ x, Sn s x → ∀ y, EG p x y → Sn s y
theorem reach_l9G (p : api_Program) (hn : p.funcs.length ≤ 32) (hle : ∀ f, (List.getD p.funcs f []).length ≤ 65536) : ∀ (m r : Nat) (s : List Bool), r + m = p.funcs.length → s.length = p.funcs.length → ∃ s', alibiref06_Reach_l9 s p.globals p.locks p.slots p.funcs (p.funcs.length : Int) (r : Int) = some s' ∧ s'.length = p.funcs.length ∧ (∀ y, Sn s y → Sn s' y) ∧ (∀ Q : Nat → Prop, (∀ x y, Q x → EG p x y → Q y) → (∀ y, Sn s y → Q y) → ∀ y, Sn s' y → Q y) ∧ (ClosedG p s' ∨ s'.count false + m ≤ s.count false)
  | 0, r, s, h, hs => by
    rw [alibiref06_Reach_l9, if_neg (by simp only [decide_eq_true_eq]; omega)]
    exact ⟨s, rfl, hs, fun y h => h, fun Q _ h => h, .inr (by omega)⟩
  | m + 1, r, s, h, hs => by
    obtain ⟨s1, g1, g2, g3, g4, g5⟩ := reach_l12G p hn hle (r : Int) p.funcs.length 0 s (by omega) hs
    rw [show ((0 : Nat) : Int) = 0 from rfl] at g1
    rw [alibiref06_Reach_l9, if_pos (decide_eq_true (by omega)), bind_some g1, inc r (by omega)]
    obtain ⟨s', k1, k2, k3, k4, k5⟩ := reach_l9G p hn hle m (r + 1) s1 (by omega) g2
    refine ⟨s', k1, k2, fun y hy => k3 y (g3 y hy), fun Q hQ hsQ => k4 Q hQ (g4 Q hQ hsQ), ?_⟩
    by_cases hcl : ClosedG p s
    · left
      have e1 : ∀ y, Sn s1 y → Sn s y := g4 (Sn s) (fun x y hx e => hcl x hx y e) fun y h => h
      have e2 : ∀ y, Sn s' y → Sn s y := fun y hy => e1 y (by
        have := k4 (Sn s1) (fun x y hx e => g3 y (hcl x (e1 x hx) y e)) (fun y h => h) y hy
        exact this)
      exact fun x hx y e => k3 y (g3 y (hcl x (e2 x hx) y e))
    · rcases k5 with k5 | k5
      · exact .inl k5
      · right
        have : ∃ x y, Sn s x ∧ EG p x y ∧ ¬ Sn s y := by
          apply Classical.byContradiction
          intro hno
          exact hcl fun x hx y e => Classical.byContradiction fun h => hno ⟨x, y, hx, e, h⟩
        obtain ⟨x, y, h1, h2, h3⟩ := this
        have := count_lt (by omega) g3 h3 (g5 x y (Nat.zero_le _) h1 h2)
        omega
theorem rf_list (p : api_Program) (hn : p.funcs.length ≤ 32) (hle : ∀ f, (List.getD p.funcs f []).length ≤ 65536) {C : List W32} (hc : C.length = p.funcs.length) (hcb : ∀ x b, x < p.funcs.length → ((List.getD C x 0#32).getLsbD b = true ↔ b < 32 ∧ Edge p.funcs x b)) (fr : List Int) (hfl : fr.length ≤ 65536) (hfr : ∀ x ∈ fr, 0 ≤ x) : ∃ t, alibiref06_Reach p fr = some t ∧ Rises 0 t ∧ ∀ b : Nat, (b : Int) ∈ t ↔ ∃ a : Nat, a < p.funcs.length ∧ (a : Int) ∈ fr ∧ Rt C a b := by
  unfold alibiref06_Reach
  rw [if_pos (decide_eq_true (by omega)), if_pos (decide_eq_true (by simp only [reach]; omega)), Int.toNat_natCast]
  obtain ⟨s0, q1, q2, q3⟩ := reach_l4 p fr hfl hfr fr.length 0 (List.replicate p.funcs.length false) (Nat.zero_add _) (by simp)
  rw [show ((0 : Nat) : Int) = 0 from rfl] at q1
  have h0 : ∀ y, Sn s0 y ↔ y < p.funcs.length ∧ (y : Int) ∈ fr := fun y => by
    rw [q3, List.drop_zero]
    constructor
    · rintro (h1 | h2)
      · exact absurd h1 (sn_replicate _ _)
      · exact h2
    · exact .inr
  obtain ⟨s, g1, g2, g3, g4, g5⟩ := reach_l9G p hn hle p.funcs.length 0 s0 (by omega) q2
  rw [show ((0 : Nat) : Int) = 0 from rfl] at g1
  obtain ⟨t, k1, k2, k3⟩ := reach_l22 s p.funcs.length (by omega) g2 p.funcs.length 0 [] (by omega) (by simp)
  rw [show ((0 : Nat) : Int) = 0 from rfl, List.nil_append] at k1
  rw [bind_some q1, bind_some g1, bind_some k1]
  have hcl : ClosedG p s := by
    rcases g5 with h | h
    · exact h
    · by_cases he : ∃ f, Sn s0 f
      · exfalso
        obtain ⟨f, hf⟩ := he
        have h1 := count_lt (s := List.replicate p.funcs.length false) (s' := s0) (by simp [q2]) (fun y hy => absurd hy (sn_replicate _ _)) (sn_replicate _ f) hf
        have h2 := List.count_le_length (a := false) (l := List.replicate p.funcs.length false)
        rw [List.length_replicate] at h2
        omega
      · intro x hx
        exact absurd ⟨x, g4 (Sn s0) (fun x y hx _ => absurd ⟨x, hx⟩ he) (fun y h => h) x hx⟩ he
  refine ⟨t, rfl, k2, fun b => ?_⟩
  rw [k3]
  constructor
  · rintro ⟨_, h1⟩
    refine g4 (fun y => ∃ a : Nat, a < p.funcs.length ∧ (a : Int) ∈ fr ∧ Rt C a y) (fun x y hx e => ?_) (fun y hy => ?_) b h1
    · obtain ⟨a, a1, a2, a3⟩ := hx
      have hxl := rt_lt a3 (by omega)
      exact ⟨a, a1, a2, rt_trans a3 (.step x y y (by rw [hc]; exact e.1) ((hcb x y (by omega)).2 ⟨by have := e.1; omega, e.2⟩) (.refl y))⟩
    · obtain ⟨h2, h3⟩ := (h0 y).1 hy
      exact ⟨y, h2, h3, .refl y⟩
  · rintro ⟨a, a1, a2, hr⟩
    refine ⟨Nat.zero_le _, ?_⟩
    have key : ∀ {a b : Nat}, Rt C a b → a < p.funcs.length → Sn s a → Sn s b := fun {a b} hr => by
      induction hr with
      | refl a => exact fun _ h => h
      | step a b c h1 h2 _ ih => exact fun hal ha => ih (by omega) (hcl a ha b ⟨by omega, ((hcb a b hal).1 h2).2⟩)
    exact key hr a1 (g3 a ((h0 a).2 ⟨a1, a2⟩))
theorem calls_l8 (p : api_Program) (hn : p.funcs.length ≤ 32) (hle : ∀ f, (List.getD p.funcs f []).length ≤ 65536) {C : List W32} (hc : C.length = p.funcs.length) (hcb : ∀ x b, x < p.funcs.length → ((List.getD C x 0#32).getLsbD b = true ↔ b < 32 ∧ Edge p.funcs x b)) (x5 : W32) : ∀ (m i : Nat) (x6 : W32), i + m = C.length → ∃ y, alibilaw06_GraphCalls_l8 C p.globals p.locks p.slots p.funcs x5 x6 (i : Int) = some (.x1 y) ∧ ∀ b, y.getLsbD b = true ↔ x6.getLsbD b = true ∨ (b < 32 ∧ ∃ g, i ≤ g ∧ g < p.funcs.length ∧ ∃ j, j < (List.getD p.funcs g []).length ∧ (List.getD (List.getD p.funcs g []) j d_api_Node).kind = 5 ∧ (List.getD (List.getD p.funcs g []) j d_api_Node).arg = (b : Int))
  | 0, i, x6, h => by
    rw [alibilaw06_GraphCalls_l8, if_neg (by simp only [decide_eq_true_eq]; omega)]
    exact ⟨x6, rfl, fun b => ⟨.inl, fun h => h.elim id fun ⟨_, g, h1, h2, _⟩ => by omega⟩⟩
  | m + 1, i, x6, h => by
    obtain ⟨t7, a1, a2, a3⟩ := refnamed_eq (List.getD p.funcs i []) (hle i) 7
    obtain ⟨m7, b1, b2⟩ := mask_eq t7 (by have := a2.length_le (by omega); omega) a2
    obtain ⟨t5, c1, c2, c3⟩ := refnamed_eq (List.getD p.funcs i []) (hle i) 5
    obtain ⟨m5, d1, d2⟩ := mask_eq t5 (by have := c2.length_le (by omega); omega) c2
    have e7 : List.getD C i 0#32 = m7 := bits_eq fun b => by
      rw [hcb i b (by omega), b2, a3]
      exact Iff.rfl
    obtain ⟨y, y1, y2⟩ := calls_l8 p hn hle hc hcb x5 m (i + 1) (x6 ||| m5) (by omega)
    rw [alibilaw06_GraphCalls_l8, if_pos (decide_eq_true (by omega)), if_pos (decide_eq_true (by omega)), if_pos (decide_eq_true (by omega)), if_pos (decide_eq_true (by omega)), Int.toNat_natCast, bind_some a1, bind_some b1, e7, if_neg (show ¬ (m7 != m7) = true by simp), bind_some c1, bind_some d1, inc i (by omega)]
    refine ⟨y, y1, fun b => ?_⟩
    rw [y2, BitVec.getLsbD_or, Bool.or_eq_true, d2, c3]
    constructor
    · rintro ((h1 | ⟨h1, h2⟩) | ⟨h1, g, h2, h3⟩)
      · exact .inl h1
      · exact .inr ⟨h1, i, Nat.le_refl _, by omega, h2⟩
      · exact .inr ⟨h1, g, by omega, h3⟩
    · rintro (h1 | ⟨h1, g, h2, h3, h4⟩)
      · exact .inl (.inl h1)
      · rcases Nat.eq_or_lt_of_le h2 with rfl | h5
        · exact .inl (.inr ⟨h1, h4⟩)
        · exact .inr ⟨h1, g, h5, h3, h4⟩
theorem graphCalls (p : api_Program) (fr : W32) : alibilaw06_GraphCalls p fr = some true := by
  unfold alibilaw06_GraphCalls
  rw [bind_some awake06, if_neg (by decide)]
  obtain ⟨sm, s1, s2⟩ := small_eq p
  rw [bind_some s1]
  cases sm with
  | false => rw [if_pos (by decide), bind_some awake06]
  | true =>
    rw [if_neg (by decide)]
    obtain ⟨_, hl⟩ := s2 rfl
    by_cases hn : (p.funcs.length : Int) > 32
    · rw [if_pos (decide_eq_true hn), bind_some awake06]
    · rw [if_neg (by simpa using hn)]
      have hle : ∀ f, (List.getD p.funcs f []).length ≤ 65536 := fun f => by have := hl f; omega
      obtain ⟨C, c1, c2, c3⟩ := callees_eq p (by omega) hle
      have hC : C.length ≤ 32 := by omega
      obtain ⟨R, r1, r2⟩ := reachL_eq p c1 hC fr
      obtain ⟨y, y1, y2⟩ := calls_l8 p (by omega) hle c2 c3 fr C.length 0 0#32 (Nat.zero_add _)
      rw [show ((0 : Nat) : Int) = 0 from rfl] at y1
      obtain ⟨x, x1, x2⟩ := begun_l3 p.funcs (by omega) hle p.funcs.length 0 0#32 (by omega)
      rw [show ((0 : Nat) : Int) = 0 from rfl] at x1
      have hb : graph_Begun p = some x := by
        unfold graph_Begun
        rw [bind_some x1]
      have hxy : x = y := bits_eq fun b => by rw [x2, y2]
      obtain ⟨l, l1, l2, l3⟩ := reflist_eq fr
      have hll := l2.length_le (by omega)
      have hln := l2.nat
      obtain ⟨t, t1, t2, t3⟩ := rf_list p (by omega) hle c2 c3 l (by omega) (fun z hz => by have := hln z hz; omega)
      obtain ⟨M, m1, m2⟩ := mask_eq t (by have := t2.length_le (by omega); omega) t2
      have hRM : R = M := bits_eq fun b => by
        rw [r2, m2, t3]
        constructor
        · rintro ⟨a, h1, h2, h3⟩
          exact ⟨a, by omega, (l3 a).2 ⟨by omega, h2⟩, h3⟩
        · rintro ⟨a, h1, h2, h3⟩
          exact ⟨a, by omega, ((l3 a).1 h2).2, h3⟩
      rw [bind_some c1, if_neg (show ¬ (((C.length : Nat) : Int) != ((p.funcs.length : Nat) : Int)) = true by simp [c2]), bind_some y1]
      simp only []
      rw [bind_some hb, if_pos (beq_iff_eq.2 hxy), bind_some r1, bind_some l1, bind_some t1, bind_some m1, hRM]
      simp
end Go.Bm.GoYtnjbjgmohmghoaaDoor
