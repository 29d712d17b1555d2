/- Calls that come back: the program's search. -/
import Derived.Test.YtigopdlofamhlaaDoorLtK2
namespace Go.Bm.GoYtigopdlofamhlaaDoor
set_option autoImplicit false
set_option linter.unusedVariables false
set_option linter.unusedSimpArgs false
set_option maxRecDepth 100000
abbrev FS := List (List api_Node)
/-- A function calls another one. -/
def Edge (fs : FS) (a b : Nat) : Prop := ∃ i, i < (List.getD fs a []).length ∧ (List.getD (List.getD fs a []) i d_api_Node).kind = 7 ∧ (List.getD (List.getD fs a []) i d_api_Node).arg = (b : Int)
inductive Path (fs : FS) : Nat → Nat → Prop
  | refl (a : Nat) : Path fs a a
  | step (a b c : Nat) : Edge fs a b → Path fs b c → Path fs a c
theorem Path.snoc {fs : FS} {a b c : Nat} (h : Path fs a b) (e : Edge fs b c) : Path fs a c := by
  induction h with
  | refl a => exact .step _ _ _ e (.refl _)
  | step a b d h _ ih => exact .step _ _ _ h (ih e)
theorem Path.trans {fs : FS} {a b c : Nat} (h : Path fs a b) (k : Path fs b c) : Path fs a c := by
  induction h with
  | refl a => exact k
  | step a b d h _ ih => exact .step _ _ _ h (ih k)
theorem path_closed {fs : FS} {S : Nat → Prop} (hS : ∀ x, S x → ∀ y, Edge fs x y → S y) {a b : Nat} (h : Path fs a b) : S a → S b := by
  induction h with
  | refl a => exact id
  | step a b c e _ ih => exact fun ha => ih (hS a ha b e)
/-- Calls are to functions that there are. -/
def CallsOk (fs : FS) : Prop := ∀ f i, f < fs.length → i < (List.getD fs f []).length → (List.getD (List.getD fs f []) i d_api_Node).kind = 7 → 0 ≤ (List.getD (List.getD fs f []) i d_api_Node).arg ∧ (List.getD (List.getD fs f []) i d_api_Node).arg < fs.length
theorem getD_out {α : Type} {l : List α} {i : Nat} {d : α} (h : l.length ≤ i) : List.getD l i d = d := by simp [List.getD, h]
theorem Edge.lt {fs : FS} {a b : Nat} (hc : CallsOk fs) (h : Edge fs a b) : a < fs.length ∧ b < fs.length := by
  obtain ⟨i, h1, h2, h3⟩ := h
  rcases Nat.lt_or_ge a fs.length with h4 | h4
  · have := hc a i h4 h1 h2
    exact ⟨h4, by omega⟩
  · rw [getD_out h4] at h1
    cases h1
def Sn (s : List Bool) (x : Nat) : Prop := List.getD s x false = true
theorem Sn.lt {s : List Bool} {x : Nat} (h : Sn s x) : x < s.length := by
  rcases Nat.lt_or_ge x s.length with h1 | h1
  · exact h1
  · unfold Sn at h; rw [getD_out h1] at h; cases h
theorem Sn_set {s : List Bool} {a x : Nat} (ha : a < s.length) : Sn (s.set a true) x ↔ x = a ∨ Sn s x := by
  unfold Sn
  by_cases h : x = a
  · subst h; simp [List.getD, ha]
  · have : a ≠ x := fun e => h e.symm
    simp [List.getD, List.getElem?_set, this, h]
theorem count_mono : ∀ (l m : List Bool), l.length = m.length → (∀ x, Sn l x → Sn m x) → m.count false ≤ l.count false
  | [], [], _, _ => Nat.le_refl _
  | a :: l, b :: m, hl, h => by
    have ih := count_mono l m (by simpa using hl) fun x hx => h (x + 1) hx
    have h0 := h 0
    unfold Sn at h0
    cases a <;> cases b <;> simp_all <;> omega
theorem count_set_true {s : List Bool} {a : Nat} (ha : a < s.length) (h : ¬ Sn s a) : (s.set a true).count false + 1 = s.count false := by
  have h1 : s[a] = false := by
    unfold Sn at h
    simpa [List.getD, ha] using h
  rw [List.count_set ha]
  have : 0 < s.count false := by
    rw [← h1]; exact List.count_pos_iff.2 (List.getElem_mem ha)
  simp [h1]
  omega
/-- What is so behind a search that found nothing. -/
structure Fruitless (fs : FS) (to : Nat) (s s' : List Bool) : Prop where
  len : s'.length = s.length
  mono : ∀ x, Sn s x → Sn s' x
  closed : ∀ x, Sn s' x → Sn s x ∨ (x ≠ to ∧ ∀ y, Edge fs x y → Sn s' y)
theorem loop7 (p : api_Program) (hc : CallsOk p.funcs) (to : Nat) (n a : Nat) (ha : a < p.funcs.length) (hat : a ≠ to) (hlen : (List.getD p.funcs a []).length ≤ 65536)
    (self : List Bool → api_Program → Int → Int → Option (Bool × List Bool))
    (hs : ∀ (s : List Bool) (b : Nat), s.length = p.funcs.length → b < p.funcs.length → s.count false < n → ∃ r s', self s p (b : Int) (to : Int) = some (r, s') ∧ s'.length = p.funcs.length ∧ (r = true → Path p.funcs b to) ∧ (r = false → Sn s' b ∧ Fruitless p.funcs to s s')) :
    ∀ (m i : Nat) (s : List Bool), i + m = (List.getD p.funcs a []).length → s.length = p.funcs.length → s.count false < n → Sn s a →
    (∃ s', prog_reaches_l7 self s p.globals p.locks p.slots p.funcs (to : Int) (List.getD p.funcs a []) ((List.getD p.funcs a []).length : Int) (i : Int) = some (.x0 s' true) ∧ s'.length = p.funcs.length ∧ Path p.funcs a to) ∨
    (∃ s', prog_reaches_l7 self s p.globals p.locks p.slots p.funcs (to : Int) (List.getD p.funcs a []) ((List.getD p.funcs a []).length : Int) (i : Int) = some (.x1 s') ∧ Fruitless p.funcs to s s' ∧ ∀ k, i ≤ k → k < (List.getD p.funcs a []).length → (List.getD (List.getD p.funcs a []) k d_api_Node).kind = 7 → Sn s' (List.getD (List.getD p.funcs a []) k d_api_Node).arg.toNat)
  | 0, i, s, h, hl, hn, hsa => by
    rw [prog_reaches_l7, if_neg (by simp only [decide_eq_true_eq]; omega)]
    exact .inr ⟨s, rfl, ⟨rfl, fun x hx => hx, fun x hx => .inl hx⟩, fun k h1 h2 => by omega⟩
  | m + 1, i, s, h, hl, hn, hsa => by
    rw [prog_reaches_l7, if_pos (decide_eq_true (by omega)), if_pos (decide_eq_true (by omega)), if_pos (decide_eq_true (by omega)), Int.toNat_natCast, inc i (by omega)]
    by_cases hk : (List.getD (List.getD p.funcs a []) i d_api_Node).kind = 7
    · rw [if_pos (eqT hk)]
      have harg := hc a i ha (by omega) hk
      obtain ⟨b, hb⟩ : ∃ b : Nat, (List.getD (List.getD p.funcs a []) i d_api_Node).arg = (b : Int) := ⟨_, (Int.toNat_of_nonneg harg.1).symm⟩
      have hE : Edge p.funcs a b := ⟨i, by omega, hk, hb⟩
      rw [hb] at harg ⊢
      obtain ⟨r, s1, q1, q2, q3, q4⟩ := hs s b hl (by omega) hn
      rw [bind_some q1]
      cases r with
      | true =>
        rw [if_pos rfl]
        exact .inl ⟨s1, rfl, q2, .step _ _ _ hE (q3 rfl)⟩
      | false =>
        rw [if_neg (show ¬ (false, s1).1 = true from Bool.false_ne_true), if_pos (decide_eq_true (by show s1.length = s.length; omega))]
        obtain ⟨q5, q6⟩ := q4 rfl
        have hmono := count_mono s s1 (by omega) q6.mono
        rcases loop7 p hc to n a ha hat hlen self hs m (i + 1) s1 (by omega) q2 (by omega) (q6.mono _ hsa) with ⟨s', g1, g2⟩ | ⟨s', g1, g2, g3⟩
        · exact .inl ⟨s', g1, g2⟩
        · refine .inr ⟨s', g1, ⟨g2.len.trans q6.len, fun x hx => g2.mono x (q6.mono x hx), fun x hx => ?_⟩, fun k h1 h2 h3 => ?_⟩
          · rcases g2.closed x hx with h4 | h4
            · rcases q6.closed x h4 with h5 | h5
              · exact .inl h5
              · exact .inr ⟨h5.1, fun y hy => g2.mono y (h5.2 y hy)⟩
            · exact .inr h4
          · rcases Nat.eq_or_lt_of_le h1 with rfl | h4
            · rw [hb, Int.toNat_natCast]
              exact g2.mono _ q5
            · exact g3 k h4 h2 h3
    · rw [if_neg (eqF hk)]
      rcases loop7 p hc to n a ha hat hlen self hs m (i + 1) s (by omega) hl hn hsa with ⟨s', g1, g2⟩ | ⟨s', g1, g2, g3⟩
      · exact .inl ⟨s', g1, g2⟩
      · refine .inr ⟨s', g1, g2, fun k h1 h2 h3 => ?_⟩
        rcases Nat.eq_or_lt_of_le h1 with rfl | h4
        · exact absurd h3 hk
        · exact g3 k h4 h2 h3
theorem reaches_N (p : api_Program) (hc : CallsOk p.funcs) (hlen : ∀ f, (List.getD p.funcs f []).length ≤ 65536) (to : Nat) : ∀ (n : Nat) (s : List Bool) (a : Nat), s.length = p.funcs.length → a < p.funcs.length → s.count false < n →
    ∃ r s', prog_reaches_N n s p (a : Int) (to : Int) = some (r, s') ∧ s'.length = p.funcs.length ∧ (r = true → Path p.funcs a to) ∧ (r = false → Sn s' a ∧ Fruitless p.funcs to s s' ∧ a ≠ to)
  | 0, s, a, hl, ha, hn => by omega
  | n + 1, s, a, hl, ha, hn => by
    show ∃ r s', prog_reaches_B (prog_reaches_N n) s p (a : Int) (to : Int) = some (r, s') ∧ _
    unfold prog_reaches_B
    by_cases hat : a = to
    · rw [if_pos (eqT (by omega))]
      subst hat
      exact ⟨true, s, rfl, hl, fun _ => .refl _, (fun h => by cases h)⟩
    · rw [if_neg (eqF (by omega)), if_pos (decide_eq_true (by omega)), if_pos (decide_eq_true (by omega)), Int.toNat_natCast]
      by_cases hsn : Sn s a
      · rw [if_pos (show List.getD s a false = true from hsn)]
        exact ⟨false, s, rfl, hl, (fun h => by cases h), fun _ => ⟨hsn, ⟨rfl, fun x hx => hx, fun x hx => .inl hx⟩, hat⟩⟩
      · rw [if_neg (show ¬ List.getD s a false = true from hsn), if_pos (decide_eq_true (by omega))]
        have hcount := count_set_true (by omega) hsn
        rcases loop7 p hc to n a ha hat (hlen a) (prog_reaches_N n) (fun s b h1 h2 h3 => by
          obtain ⟨r, s', q1, q2, q3, q4⟩ := reaches_N p hc hlen to n s b h1 h2 h3
          exact ⟨r, s', q1, q2, q3, fun h => ⟨(q4 h).1, (q4 h).2.1⟩⟩) (List.getD p.funcs a []).length 0 (s.set a true) (by omega) (by simpa using hl) (by omega) ((Sn_set (by omega)).2 (.inl rfl)) with ⟨s', g1, g2, g3⟩ | ⟨s', g1, g2, g3⟩
        · rw [show ((0 : Nat) : Int) = 0 from rfl] at g1
          rw [bind_some g1]
          exact ⟨true, s', rfl, g2, fun _ => g3, fun h => by cases h⟩
        · rw [show ((0 : Nat) : Int) = 0 from rfl] at g1
          rw [bind_some g1]
          have hsub : ∀ x, Sn s x → Sn s' x := fun x hx => g2.mono x ((Sn_set (by omega)).2 (.inr hx))
          refine ⟨false, s', rfl, by have := g2.len; rw [List.length_set] at this; omega, (fun h => by cases h), fun _ => ⟨g2.mono a ((Sn_set (by omega)).2 (.inl rfl)), ⟨by have := g2.len; rw [List.length_set] at this; omega, hsub, fun x hx => ?_⟩, hat⟩⟩
          rcases g2.closed x hx with h1 | h1
          · rcases (Sn_set (by omega)).1 h1 with rfl | h1
            · refine .inr ⟨hat, fun y hy => ?_⟩
              obtain ⟨k, k1, k2, k3⟩ := hy
              have := g3 k (Nat.zero_le _) k1 k2
              rw [k3, Int.toNat_natCast] at this
              exact this
            · exact .inl h1
          · exact .inr h1
theorem sn_replicate (n x : Nat) : ¬ Sn (List.replicate n false) x := by
  unfold Sn
  simp only [List.getD, List.getElem?_replicate]
  split <;> simp
theorem reaches_eq (p : api_Program) (hc : CallsOk p.funcs) (hlen : ∀ f, (List.getD p.funcs f []).length ≤ 65536) (hn : p.funcs.length ≤ 500) (a to : Nat) (ha : a < p.funcs.length) : ∃ r s', prog_reaches (List.replicate p.funcs.length false) p (a : Int) (to : Int) = some (r, s') ∧ (r = true ↔ Path p.funcs a to) := by
  unfold prog_reaches
  obtain ⟨r, s', q1, q2, q3, q4⟩ := reaches_N p hc hlen to 1000 (List.replicate p.funcs.length false) a (by simp) ha (by have := List.count_le_length (a := false) (l := List.replicate p.funcs.length false); simp at this ⊢; omega)
  refine ⟨r, s', q1, q3, fun hp => ?_⟩
  cases r with
  | true => rfl
  | false =>
    exfalso
    obtain ⟨h1, h2, h3⟩ := q4 rfl
    have hcl : ∀ x, Sn s' x → x ≠ to ∧ ∀ y, Edge p.funcs x y → Sn s' y := fun x hx => (h2.closed x hx).resolve_left (sn_replicate _ _)
    exact (hcl to (path_closed (fun x hx => (hcl x hx).2) hp h1)).1 rfl
end Go.Bm.GoYtigopdlofamhlaaDoor
