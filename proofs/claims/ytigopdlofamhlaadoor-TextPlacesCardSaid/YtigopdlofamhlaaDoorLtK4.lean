/- Calls that come back: the first one is the same; the document's table. -/
import Derived.Test.YtigopdlofamhlaaDoorLtK3
namespace Go.Bm.GoYtigopdlofamhlaaDoor
set_option autoImplicit false
set_option linter.unusedVariables false
set_option linter.unusedSimpArgs false
set_option maxRecDepth 100000
theorem find_succ (q : Nat → Bool) (i m : Nat) : find q i (m + 1) = if q i = true then some i else find q (i + 1) m := rfl
theorem findO_succ {β : Type} (q : Nat → Option β) (i m : Nat) : findO q i (m + 1) = match q i with
    | some b => some (i, b)
    | none => findO q (i + 1) m := rfl
/-- A node calls what comes back. -/
def Bad (fs : FS) (f i : Nat) : Prop := (List.getD (List.getD fs f []) i d_api_Node).kind = 7 ∧ ∃ a : Nat, (List.getD (List.getD fs f []) i d_api_Node).arg = (a : Int) ∧ Path fs a f
noncomputable def badb (fs : FS) (f i : Nat) : Bool := @decide (Bad fs f i) (Classical.propDecidable _)
theorem badb_iff {fs : FS} {f i : Nat} : badb fs f i = true ↔ Bad fs f i := by
  unfold badb
  exact @decide_eq_true_iff _ (Classical.propDecidable _)
theorem round_l5 (p : api_Program) (hc : CallsOk p.funcs) (hlen : ∀ f, (List.getD p.funcs f []).length ≤ 65536) (hn : p.funcs.length ≤ 500) (f : Nat) (hf : f < p.funcs.length) (x5 : FS) (x6 x7 : Int) : ∀ (m i : Nat), i + m = (List.getD p.funcs f []).length → prog_round_l5 p.globals p.locks p.slots p.funcs (f : Int) x5 x6 x7 (List.getD p.funcs f []) ((List.getD p.funcs f []).length : Int) (i : Int) =
    some (match find (badb p.funcs f) i m with | some k => .x0 k true | none => .x1)
  | 0, i, h => by rw [prog_round_l5, if_neg (by simp only [decide_eq_true_eq]; omega)]; rfl
  | m + 1, i, h => by
    have ih := round_l5 p hc hlen hn f hf x5 x6 x7 m (i + 1) (by omega)
    have hl := hlen f
    rw [prog_round_l5, if_pos (decide_eq_true (by omega)), if_pos (decide_eq_true (by omega)), if_pos (decide_eq_true (by omega)), Int.toNat_natCast, inc i (by omega), ih]
    rw [find_succ]
    by_cases hk : (List.getD (List.getD p.funcs f []) i d_api_Node).kind = 7
    · rw [if_pos (eqT hk), if_pos (decide_eq_true (by omega)), if_pos (decide_eq_true (by simp only [reach]; omega)), Int.toNat_natCast]
      have harg := hc f i hf (by omega) hk
      obtain ⟨b, hb⟩ : ∃ b : Nat, (List.getD (List.getD p.funcs f []) i d_api_Node).arg = (b : Int) := ⟨_, (Int.toNat_of_nonneg harg.1).symm⟩
      rw [hb] at harg ⊢
      obtain ⟨r, s', q1, q2⟩ := reaches_eq p hc hlen hn b f (by omega)
      rw [bind_some q1]
      have hq : badb p.funcs f i = r := by
        rw [Bool.eq_iff_iff, badb_iff, q2]
        constructor
        · rintro ⟨_, a, h1, h2⟩
          have : a = b := by omega
          rw [← this]; exact h2
        · exact fun h => ⟨hk, b, hb, h⟩
      rw [hq]
      cases r with
      | true => rfl
      | false => rfl
    · rw [if_neg (eqF hk)]
      have hq : badb p.funcs f i = false := by
        rw [Bool.eq_false_iff]
        intro h
        exact hk (badb_iff.1 h).1
      rw [hq]
      rfl
noncomputable def bad2 (fs : FS) (f : Nat) : Option Nat := find (badb fs f) 0 (List.getD fs f []).length
theorem round_l2 (p : api_Program) (hc : CallsOk p.funcs) (hlen : ∀ f, (List.getD p.funcs f []).length ≤ 65536) (hn : p.funcs.length ≤ 500) : ∀ (m i : Nat), i + m = p.funcs.length → prog_round_l2 p.globals p.locks p.slots p.funcs p.funcs (p.funcs.length : Int) (i : Int) =
    some (match findO (bad2 p.funcs) i m with | some (f, k) => .x0 f k true | none => .x1)
  | 0, i, h => by rw [prog_round_l2, if_neg (by simp only [decide_eq_true_eq]; omega)]; rfl
  | m + 1, i, h => by
    have ih := round_l2 p hc hlen hn m (i + 1) (by omega)
    have h2 := round_l5 p hc hlen hn i (by omega) p.funcs (p.funcs.length : Int) (i : Int) (List.getD p.funcs i []).length 0 (by omega)
    rw [show ((0 : Nat) : Int) = 0 from rfl] at h2
    rw [prog_round_l2, if_pos (decide_eq_true (by omega)), if_pos (decide_eq_true (by omega)), if_pos (decide_eq_true (by omega)), Int.toNat_natCast, inc i (by omega), ih, bind_some h2]
    rw [findO_succ]
    unfold bad2
    cases find (badb p.funcs i) 0 (List.getD p.funcs i []).length with
    | some k => rfl
    | none => rfl
/-! ### the table -/
/-- A path by way of functions below a number. -/
inductive Via (fs : FS) (k : Nat) : Nat → Nat → Prop
  | edge (a b : Nat) : Edge fs a b → Via fs k a b
  | comp (a c b : Nat) : Via fs k a c → c < k → Via fs k c b → Via fs k a b
def Trans (fs : FS) (a b : Nat) : Prop := ∃ c, Edge fs a c ∧ Path fs c b
theorem Trans.trans {fs : FS} {a b c : Nat} (h : Trans fs a b) (k : Trans fs b c) : Trans fs a c := by
  obtain ⟨x, h1, h2⟩ := h
  obtain ⟨y, k1, k2⟩ := k
  exact ⟨x, h1, h2.trans (.step _ _ _ k1 k2)⟩
theorem Via.of_path {fs : FS} (hc : CallsOk fs) {c b : Nat} (h : Path fs c b) : ∀ a, Edge fs a c → Via fs fs.length a b := by
  induction h with
  | refl c => exact fun a e => .edge a c e
  | step c d b e _ ih => exact fun a e2 => .comp a c b (.edge a c e2) (e2.lt hc).2 (ih c e)
theorem Via.zero {fs : FS} {a b : Nat} (h : Via fs 0 a b) : Edge fs a b := by
  cases h with
  | edge _ _ e => exact e
  | comp _ _ _ _ h _ => omega
theorem Via.mono {fs : FS} {k : Nat} {a b : Nat} (h : Via fs k a b) : Via fs (k + 1) a b := by
  induction h with
  | edge a b e => exact .edge a b e
  | comp a c b _ hc _ ih1 ih2 => exact .comp a c b ih1 (by omega) ih2
theorem Via.succ {fs : FS} {k : Nat} {a b : Nat} (h : Via fs (k + 1) a b) : Via fs k a b ∨ (Via fs k a k ∧ Via fs k k b) := by
  induction h with
  | edge a b e => exact .inl (.edge a b e)
  | comp a c b _ hc _ ih1 ih2 =>
    by_cases hk : c = k
    · subst hk
      have h1 : Via fs c a c := ih1.elim id fun h => h.1
      have h2 : Via fs c c b := ih2.elim id fun h => h.2
      exact .inr ⟨h1, h2⟩
    · have hlt : c < k := by omega
      rcases ih1 with h1 | ⟨h1, h1'⟩ <;> rcases ih2 with h2 | ⟨h2, h2'⟩
      · exact .inl (.comp a c b h1 hlt h2)
      · exact .inr ⟨.comp a c k h1 hlt h2, h2'⟩
      · exact .inr ⟨h1, .comp k c b h1' hlt h2⟩
      · exact .inr ⟨h1, h2'⟩
def TB (t : List (List Int)) (a b : Nat) : Prop := List.getD (List.getD t a []) b 0 = 1
theorem TB_set {t : List (List Int)} {a b : Nat} (ha : a < t.length) (hb : b < (List.getD t a []).length) (x y : Nat) : TB (t.set a ((List.getD t a []).set b 1)) x y ↔ (x = a ∧ y = b) ∨ TB t x y := by
  unfold TB
  by_cases hx : x = a
  · subst hx
    have e1 : List.getD (t.set x ((List.getD t x []).set b 1)) x [] = (List.getD t x []).set b 1 := by simp [List.getD, ha]
    rw [e1]
    by_cases hy : y = b
    · subst hy
      have : List.getD ((List.getD t x []).set y 1) y 0 = 1 := by
        generalize List.getD t x [] = r at hb
        simp [List.getD, hb]
      exact iff_of_true this (.inl ⟨rfl, rfl⟩)
    · have : List.getD ((List.getD t x []).set b 1) y 0 = List.getD (List.getD t x []) y 0 := by
        generalize List.getD t x [] = r
        have : b ≠ y := fun e => hy e.symm
        simp [List.getD, List.getElem?_set, this]
      rw [this]
      simp [hy]
  · have : List.getD (t.set a ((List.getD t a []).set b 1)) x [] = List.getD t x [] := by
      generalize (List.getD t a []).set b 1 = r
      have : a ≠ x := fun e => hx e.symm
      simp [List.getD, List.getElem?_set, this]
    rw [this]
    simp [hx]
/-- The table in the round k, behind the pairs before (a, b). -/
structure FW (fs : FS) (t : List (List Int)) (k a b : Nat) : Prop where
  len : t.length = fs.length
  row : ∀ x, x < fs.length → (List.getD t x []).length = fs.length
  snd : ∀ x y, TB t x y → Trans fs x y
  cpl : ∀ x y, x < fs.length → y < fs.length → Via fs k x y → TB t x y
  prg : ∀ x y, x < fs.length → y < fs.length → (x < a ∨ (x = a ∧ y < b)) → Via fs k x k → Via fs k k y → TB t x y
theorem row_set {t : List (List Int)} {a b n : Nat} (h : ∀ x, x < n → (List.getD t x []).length = n) (ha : a < n) (hat : a < t.length) : ∀ x, x < n → (List.getD (t.set a ((List.getD t a []).set b 1)) x []).length = n := by
  intro x hx
  by_cases hxa : x = a
  · subst hxa
    have e1 : List.getD (t.set x ((List.getD t x []).set b 1)) x [] = (List.getD t x []).set b 1 := by simp [List.getD, hat]
    rw [e1, List.length_set]
    exact h x hx
  · have : List.getD (t.set a ((List.getD t a []).set b 1)) x [] = List.getD t x [] := by
      generalize (List.getD t a []).set b 1 = r
      have : a ≠ x := fun e => hxa e.symm
      simp [List.getD, List.getElem?_set, this]
    rw [this]
    exact h x hx
theorem calls_l20 (fs : FS) (hn : fs.length ≤ 65536) (k a : Nat) (hk : k < fs.length) (ha : a < fs.length) : ∀ (m b : Nat) (t : List (List Int)), b + m = fs.length → FW fs t k a b → ∃ t', alibiref05_Calls_l20 t (fs.length : Int) (k : Int) (a : Int) (b : Int) = some t' ∧ FW fs t' k a fs.length
  | 0, b, t, h, hf => by
    rw [alibiref05_Calls_l20, if_neg (by simp only [decide_eq_true_eq]; omega)]
    have : b = fs.length := by omega
    subst this
    exact ⟨t, rfl, hf⟩
  | m + 1, b, t, h, hf => by
    have hl := hf.len
    have hra := hf.row a ha
    have hrk := hf.row k hk
    rw [alibiref05_Calls_l20, if_pos (decide_eq_true (by omega)), if_pos (decide_eq_true (by omega)), if_pos (decide_eq_true (by omega)), if_pos (decide_eq_true (by omega))]
    simp only [Int.toNat_natCast]
    rw [if_pos (decide_eq_true (by omega)), inc b (by omega)]
    have keep : (¬ (TB t a k ∧ TB t k b)) → FW fs t k a (b + 1) := fun hno => ⟨hl, hf.row, hf.snd, hf.cpl, fun x y hx hy hxy h1 h2 => by
      rcases hxy with hxy | ⟨rfl, hxy⟩
      · exact hf.prg x y hx hy (.inl hxy) h1 h2
      · rcases Nat.lt_or_ge y b with h3 | h3
        · exact hf.prg x y hx hy (.inr ⟨rfl, h3⟩) h1 h2
        · have : y = b := by omega
          subst this
          exact absurd ⟨hf.cpl _ _ hx hk h1, hf.cpl _ _ hk hy h2⟩ hno⟩
    by_cases h1 : TB t a k
    · rw [if_pos (eqT h1), if_pos (decide_eq_true (by omega)), if_pos (decide_eq_true (by omega)), if_pos (decide_eq_true (by omega))]
      by_cases h2 : TB t k b
      · rw [if_pos (eqT h2), if_pos (decide_eq_true (by omega))]
        refine calls_l20 fs hn k a hk ha m (b + 1) _ (by omega) ⟨by simpa using hl, row_set hf.row ha (by omega), fun x y hxy => ?_, fun x y hx hy hv => (TB_set (by omega) (by omega) x y).2 (.inr (hf.cpl x y hx hy hv)), fun x y hx hy hxy g1 g2 => (TB_set (by omega) (by omega) x y).2 ?_⟩
        · rcases (TB_set (by omega) (by omega) x y).1 hxy with ⟨rfl, rfl⟩ | hxy
          · exact (hf.snd _ _ h1).trans (hf.snd _ _ h2)
          · exact hf.snd _ _ hxy
        · rcases hxy with hxy | ⟨rfl, hxy⟩
          · exact .inr (hf.prg x y hx hy (.inl hxy) g1 g2)
          · rcases Nat.lt_or_ge y b with h3 | h3
            · exact .inr (hf.prg x y hx hy (.inr ⟨rfl, h3⟩) g1 g2)
            · exact .inl ⟨rfl, by omega⟩
      · rw [if_neg (eqF h2)]
        exact calls_l20 fs hn k a hk ha m (b + 1) t (by omega) (keep fun h => h2 h.2)
    · rw [if_neg (eqF h1)]
      exact calls_l20 fs hn k a hk ha m (b + 1) t (by omega) (keep fun h => h1 h.1)
theorem calls_l17 (fs : FS) (hn : fs.length ≤ 65536) (k : Nat) (hk : k < fs.length) : ∀ (m a : Nat) (t : List (List Int)), a + m = fs.length → FW fs t k a 0 → ∃ t', alibiref05_Calls_l17 t (fs.length : Int) (k : Int) (a : Int) = some t' ∧ FW fs t' k fs.length 0
  | 0, a, t, h, hf => by
    rw [alibiref05_Calls_l17, if_neg (by simp only [decide_eq_true_eq]; omega)]
    have : a = fs.length := by omega
    subst this
    exact ⟨t, rfl, hf⟩
  | m + 1, a, t, h, hf => by
    obtain ⟨t1, h1, h2⟩ := calls_l20 fs hn k a hk (by omega) fs.length 0 t (by omega) hf
    rw [show ((0 : Nat) : Int) = 0 from rfl] at h1
    rw [alibiref05_Calls_l17, if_pos (decide_eq_true (by omega)), bind_some h1, inc a (by omega)]
    exact calls_l17 fs hn k hk m (a + 1) t1 (by omega) ⟨h2.len, h2.row, h2.snd, h2.cpl, fun x y hx hy hxy => h2.prg x y hx hy (by omega)⟩
theorem calls_l14 (fs : FS) (hn : fs.length ≤ 65536) : ∀ (m k : Nat) (t : List (List Int)), k + m = fs.length → FW fs t k 0 0 → ∃ t', alibiref05_Calls_l14 t (fs.length : Int) (k : Int) = some t' ∧ FW fs t' fs.length 0 0
  | 0, k, t, h, hf => by
    rw [alibiref05_Calls_l14, if_neg (by simp only [decide_eq_true_eq]; omega)]
    have : k = fs.length := by omega
    subst this
    exact ⟨t, rfl, hf⟩
  | m + 1, k, t, h, hf => by
    obtain ⟨t1, h1, h2⟩ := calls_l17 fs hn k (by omega) fs.length 0 t (by omega) hf
    rw [show ((0 : Nat) : Int) = 0 from rfl] at h1
    rw [alibiref05_Calls_l14, if_pos (decide_eq_true (by omega)), bind_some h1, inc k (by omega)]
    refine calls_l14 fs hn m (k + 1) t1 (by omega) ⟨h2.len, h2.row, h2.snd, fun x y hx hy hv => ?_, fun x y hx hy hxy => by omega⟩
    rcases hv.succ with hv | ⟨hv1, hv2⟩
    · exact h2.cpl x y hx hy hv
    · exact h2.prg x y hx hy (.inl hx) hv1 hv2
/-! ### its first rows -/
theorem row_l8 (p : api_Program) (hc : CallsOk p.funcs) (f : Nat) (hf : f < p.funcs.length) (hl : (List.getD p.funcs f []).length ≤ 65536) (x0 : List (List Int)) (x6 : Int) : ∀ (m i : Nat) (r : List Int), i + m = (List.getD p.funcs f []).length → r.length = p.funcs.length →
    ∃ r', alibiref05_Calls_l8 x0 r p.globals p.locks p.slots p.funcs x6 (f : Int) (i : Int) = some r' ∧ r'.length = p.funcs.length ∧ ∀ b, List.getD r' b 0 = 1 ↔ List.getD r b 0 = 1 ∨ ∃ k, i ≤ k ∧ k < (List.getD p.funcs f []).length ∧ (List.getD (List.getD p.funcs f []) k d_api_Node).kind = 7 ∧ (List.getD (List.getD p.funcs f []) k d_api_Node).arg = (b : Int)
  | 0, i, r, h, hr => by
    rw [alibiref05_Calls_l8, if_pos (decide_eq_true (by omega)), if_pos (decide_eq_true (by omega)), Int.toNat_natCast, if_neg (by simp only [decide_eq_true_eq]; omega)]
    exact ⟨r, rfl, hr, fun b => ⟨.inl, fun h => h.elim id fun ⟨k, h1, h2, _⟩ => by omega⟩⟩
  | m + 1, i, r, h, hr => by
    rw [alibiref05_Calls_l8, if_pos (decide_eq_true (by omega)), if_pos (decide_eq_true (by omega))]
    simp only [Int.toNat_natCast]
    rw [if_pos (decide_eq_true (by omega)), if_pos (decide_eq_true (by omega)), if_pos (decide_eq_true (by omega)), inc i (by omega)]
    by_cases hk : (List.getD (List.getD p.funcs f []) i d_api_Node).kind = 7
    · have harg := hc f i hf (by omega) hk
      obtain ⟨c, hb⟩ : ∃ b : Nat, (List.getD (List.getD p.funcs f []) i d_api_Node).arg = (b : Int) := ⟨_, (Int.toNat_of_nonneg harg.1).symm⟩
      rw [if_pos (eqT hk)]
      simp only [hb] at harg ⊢
      rw [if_pos (decide_eq_true (by omega)), if_pos (decide_eq_true (by omega)), Int.toNat_natCast]
      obtain ⟨r', q1, q2, q3⟩ := row_l8 p hc f hf hl x0 x6 m (i + 1) (r.set c 1) (by omega) (by simpa using hr)
      refine ⟨r', q1, q2, fun b => ?_⟩
      rw [q3]
      have hset : List.getD (r.set c 1) b 0 = 1 ↔ b = c ∨ List.getD r b 0 = 1 := by
        by_cases hbc : b = c
        · subst hbc; simp [List.getD, show b < r.length by omega]
        · have : c ≠ b := fun e => hbc e.symm
          simp [List.getD, List.getElem?_set, this, hbc]
      rw [hset]
      constructor
      · rintro ((rfl | h1) | ⟨k, k1, k2, k3, k4⟩)
        · exact .inr ⟨i, Nat.le_refl _, by omega, hk, hb⟩
        · exact .inl h1
        · exact .inr ⟨k, by omega, k2, k3, k4⟩
      · rintro (h1 | ⟨k, k1, k2, k3, k4⟩)
        · exact .inl (.inr h1)
        · rcases Nat.eq_or_lt_of_le k1 with rfl | k5
          · exact .inl (.inl (by omega))
          · exact .inr ⟨k, k5, k2, k3, k4⟩
    · rw [if_neg (eqF hk)]
      obtain ⟨r', q1, q2, q3⟩ := row_l8 p hc f hf hl x0 x6 m (i + 1) r (by omega) hr
      refine ⟨r', q1, q2, fun b => ?_⟩
      rw [q3]
      constructor
      · rintro (h1 | ⟨k, k1, k2, k3, k4⟩)
        · exact .inl h1
        · exact .inr ⟨k, by omega, k2, k3, k4⟩
      · rintro (h1 | ⟨k, k1, k2, k3, k4⟩)
        · exact .inl h1
        · rcases Nat.eq_or_lt_of_le k1 with rfl | k5
          · exact absurd k3 hk
          · exact .inr ⟨k, k5, k2, k3, k4⟩
theorem getD_snoc {α : Type} (t : List α) (x d : α) (a : Nat) : List.getD (t ++ [x]) a d = if a = t.length then x else List.getD t a d := by
  by_cases h : a = t.length
  · subst h; simp [List.getD]
  · rw [if_neg h]
    rcases Nat.lt_or_ge a t.length with h1 | h1
    · simp [List.getD, List.getElem?_append_left h1]
    · rw [getD_out (by simp; omega), getD_out (by omega)]
theorem rows_l4 (p : api_Program) (hc : CallsOk p.funcs) (hlen : ∀ f, (List.getD p.funcs f []).length ≤ 65536) (hn : p.funcs.length ≤ 65536) : ∀ (m f : Nat) (t : List (List Int)), f + m = p.funcs.length → t.length = f → (∀ x, x < f → (List.getD t x []).length = p.funcs.length) → (∀ x y, x < f → (TB t x y ↔ Edge p.funcs x y)) →
    ∃ t', alibiref05_Calls_l4 t p.globals p.locks p.slots p.funcs (p.funcs.length : Int) (f : Int) = some t' ∧ t'.length = p.funcs.length ∧ (∀ x, x < p.funcs.length → (List.getD t' x []).length = p.funcs.length) ∧ ∀ x y, x < p.funcs.length → (TB t' x y ↔ Edge p.funcs x y)
  | 0, f, t, h, h1, h2, h3 => by
    rw [alibiref05_Calls_l4, if_neg (by simp only [decide_eq_true_eq]; omega)]
    have : f = p.funcs.length := by omega
    subst this
    exact ⟨t, rfl, h1, h2, h3⟩
  | m + 1, f, t, h, h1, h2, h3 => by
    obtain ⟨r, q1, q2, q3⟩ := row_l8 p hc f (by omega) (hlen f) t (p.funcs.length : Int) (List.getD p.funcs f []).length 0 (List.replicate p.funcs.length 0) (by omega) (by simp)
    rw [show ((0 : Nat) : Int) = 0 from rfl] at q1
    rw [alibiref05_Calls_l4, if_pos (decide_eq_true (by omega)), if_pos (decide_eq_true (by omega)), if_pos (decide_eq_true (by simp only [reach]; omega)), Int.toNat_natCast, bind_some q1, if_pos (Nat.ble_eq_true_of_le (by simp only [List.length_singleton, reach]; omega)), inc f (by omega)]
    refine rows_l4 p hc hlen hn m (f + 1) (t ++ [r]) (by omega) (by simp [h1]) (fun x hx => ?_) fun x y hx => ?_
    · rw [getD_snoc]
      split
      · exact q2
      · exact h2 x (by omega)
    · unfold TB
      rw [getD_snoc]
      split
      · rename_i e
        rw [q3]
        have e1 : x = f := by omega
        subst e1
        have e2 : List.getD (List.replicate p.funcs.length (0 : Int)) y 0 = 0 := by
          simp only [List.getD, List.getElem?_replicate]
          split <;> rfl
        rw [e2]
        constructor
        · rintro (h | ⟨k, _, k2, k3, k4⟩)
          · omega
          · exact ⟨k, k2, k3, k4⟩
        · rintro ⟨k, k2, k3, k4⟩
          exact .inr ⟨k, Nat.zero_le _, k2, k3, k4⟩
      · exact h3 x y (by omega)
theorem calls_eq (p : api_Program) (hc : CallsOk p.funcs) (hlen : ∀ f, (List.getD p.funcs f []).length ≤ 65536) (hn : p.funcs.length ≤ 65536) : ∃ t, alibiref05_Calls p = some t ∧ t.length = p.funcs.length ∧ (∀ x, x < p.funcs.length → (List.getD t x []).length = p.funcs.length) ∧ ∀ x y, x < p.funcs.length → (TB t x y ↔ Trans p.funcs x y) := by
  obtain ⟨t, q1, q2, q3, q4⟩ := rows_l4 p hc hlen hn p.funcs.length 0 [] (by omega) rfl (fun x hx => by omega) (fun x y hx => by omega)
  rw [show ((0 : Nat) : Int) = 0 from rfl] at q1
  have hedge : ∀ x y, TB t x y → Edge p.funcs x y := fun x y h => by
    rcases Nat.lt_or_ge x p.funcs.length with hx | hx
    · exact (q4 x y hx).1 h
    · unfold TB at h
      rw [getD_out (l := t) (by omega)] at h
      simp at h
  obtain ⟨t', g1, g2⟩ := calls_l14 p.funcs hn p.funcs.length 0 t (by omega) ⟨q2, q3, fun x y h => ⟨y, hedge x y h, .refl _⟩, fun x y hx hy hv => (q4 x y hx).2 hv.zero, fun x y hx hy h => by omega⟩
  rw [show ((0 : Nat) : Int) = 0 from rfl] at g1
  unfold alibiref05_Calls
  rw [bind_some q1, bind_some g1]
  refine ⟨t', rfl, g2.len, g2.row, fun x y hx => ⟨g2.snd x y, ?_⟩⟩
  rintro ⟨c, h1, h2⟩
  have hv := Via.of_path hc h2 x h1
  have hy : y < p.funcs.length := by
    cases h2 with
    | refl _ => exact (h1.lt hc).2
    | step _ d _ e k =>
      clear hv
      have : ∀ {u v : Nat}, Path p.funcs u v → u < p.funcs.length → v < p.funcs.length := fun h => path_closed (S := fun x => x < p.funcs.length) (fun x _ y e => (e.lt hc).2) h
      exact this k (e.lt hc).2
  exact g2.cpl x y hx hy hv
end Go.Bm.GoYtigopdlofamhlaaDoor
