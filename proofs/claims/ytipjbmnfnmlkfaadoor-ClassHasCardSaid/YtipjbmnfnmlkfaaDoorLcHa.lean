import Derived.Test.YtipjbmnfnmlkfaaDoorTX6b
namespace Go.Bm.GoYtipjbmnfnmlkfaaDoor
set_option autoImplicit false
set_option linter.unusedVariables false
set_option linter.unusedSimpArgs false
set_option maxRecDepth 100000
theorem iP {c : Prop} [Decidable c] {α : Sort _} {a b : α} (h : c) : (if decide c = true then a else b) = a := if_pos (decide_eq_true h)
theorem iN {c : Prop} [Decidable c] {α : Sort _} {a b : α} (h : ¬ c) : (if decide c = true then a else b) = b := if_neg (by rw [decide_eq_true_eq]; exact h)
theorem bind_some {α β : Type} {x : Option α} {v : α} {k : α → Option β} (h : x = some v) : (bind x k) = k v := by rw [h]; rfl
theorem inc (i : Nat) (h : i ≤ 1000000000) : am (i : Int) 1 = ((i + 1 : Nat) : Int) := by rw [j7 (by omega) (by omega)]; omega
theorem eqT {a b : Int} (h : a = b) : ((a : Int) == b) = true := by simp [h]
theorem eqF {a b : Int} (h : a ≠ b) : ¬ ((a : Int) == b) = true := by simp [h]
theorem rn (n s : Int) : fi n s = some (decide (0 ≤ n ∧ n < s)) := by
 unfold fi
 by_cases h : n ≥ 0
 ·rw [if_pos (decide_eq_true h)]
  congr 1
  rw [decide_eq_decide]
  omega
 ·rw [if_neg (by simpa using h)]
  congr 1
  rw [eq_comm, decide_eq_false_iff_not]
  omega
structure oM (p : ac) (x : aa) (n : Int) : Prop where
 kind : 0 ≤ x.kind ∧ x.kind ≤ 9
 glob : x.kind = 1 ∨ x.kind = 2 → 0 ≤ x.arg ∧ x.arg < p.globals
 lock : x.kind = 3 ∨ x.kind = 4 → 0 ≤ x.arg ∧ x.arg < p.locks
 spawn : x.kind = 5 → 0 ≤ x.arg ∧ x.arg < p.funcs.length ∧ 0 ≤ x.alt ∧ x.alt < p.slots
 join : x.kind = 6 → 0 ≤ x.arg ∧ x.arg < p.slots
 call : x.kind = 7 → 0 ≤ x.arg ∧ x.arg < p.funcs.length
 next : x.kind ≠ 9 → 0 ≤ x.next ∧ x.next < max n 1
 alt : x.kind = 8 → 0 ≤ x.alt ∧ x.alt < max n 1
theorem BK (p : ac) (x : aa) (n : Int) : ∃ b, iw p x n = some b ∧ (b = true → oM p x n) := by
 have go : ∀ v : Int × Int × Int × Bool, iu p x.kind n = some v → (v.2.2.2 = true → (0 ≤ x.arg ∧ x.arg < max v.1 1) → (0 ≤ x.next ∧ x.next < max v.2.1 1) → (0 ≤ x.alt ∧ x.alt < max v.2.2.1 1) → oM p x n) → ∃ b, iw p x n = some b ∧ (b = true → oM p x n) := by
  intro v hv hok
  have em : ∀ a : Int, (if 1 > a then 1 else a) = max a 1 := fun a => by split <;> omega
  unfold iw
  rw [bind_some hv]
  by_cases h0 : v.2.2.2 = true
  ·rw [if_pos h0, bind_some (rn _ _), em]
   by_cases h1 : 0 ≤ x.arg ∧ x.arg < max v.1 1
   ·rw [if_pos (decide_eq_true h1), bind_some (rn _ _), em]
    by_cases h2 : 0 ≤ x.next ∧ x.next < max v.2.1 1
    ·rw [if_pos (decide_eq_true h2), bind_some (rn _ _), em]
     exact ⟨_, rfl, fun h => hok h0 h1 h2 (of_decide_eq_true h)⟩
    ·rw [if_neg (by simpa using h2)]
     exact ⟨false, rfl, (fun h => by cases h)⟩
   ·rw [if_neg (by simpa using h1)]
    exact ⟨false, rfl, (fun h => by cases h)⟩
  ·rw [if_neg h0]
   exact ⟨false, rfl, (fun h => by cases h)⟩
 unfold iu at go
 by_cases k0 : x.kind = 0
 ·exact go (0, n, 0, true) (if_pos (eqT k0)) fun _ h1 h2 h3 => ⟨by omega, by omega, by omega, by omega, by omega, by omega, fun _ => h2, by omega⟩
 rw [if_neg (eqF k0)] at go
 by_cases k1 : x.kind = 1
 ·exact go _ (if_pos (eqT k1)) fun h0 h1 h2 h3 => by
   have h0 := of_decide_eq_true h0
   dsimp only at h0 h1 h2 h3
   exact ⟨by omega, by omega, by omega, by omega, by omega, by omega, by omega, by omega⟩
 rw [if_neg (eqF k1)] at go
 by_cases k2 : x.kind = 2
 ·exact go _ (if_pos (eqT k2)) fun h0 h1 h2 h3 => by
   have h0 := of_decide_eq_true h0
   dsimp only at h0 h1 h2 h3
   exact ⟨by omega, by omega, by omega, by omega, by omega, by omega, by omega, by omega⟩
 rw [if_neg (eqF k2)] at go
 by_cases k3 : x.kind = 3
 ·exact go _ (if_pos (eqT k3)) fun h0 h1 h2 h3 => by
   have h0 := of_decide_eq_true h0
   dsimp only at h0 h1 h2 h3
   exact ⟨by omega, by omega, by omega, by omega, by omega, by omega, by omega, by omega⟩
 rw [if_neg (eqF k3)] at go
 by_cases k4 : x.kind = 4
 ·exact go _ (if_pos (eqT k4)) fun h0 h1 h2 h3 => by
   have h0 := of_decide_eq_true h0
   dsimp only at h0 h1 h2 h3
   exact ⟨by omega, by omega, by omega, by omega, by omega, by omega, by omega, by omega⟩
 rw [if_neg (eqF k4)] at go
 by_cases k5 : x.kind = 5
 ·rw [if_pos (eqT k5)] at go
  by_cases hs : p.slots > 0
  ·rw [if_pos (decide_eq_true hs)] at go
   exact go _ rfl fun h0 h1 h2 h3 => by
    have h0 := of_decide_eq_true h0
    dsimp only at h0 h1 h2 h3
    exact ⟨by omega, by omega, by omega, by omega, by omega, by omega, by omega, by omega⟩
  ·rw [if_neg (by simpa using hs)] at go
   exact go _ rfl fun h0 => by cases h0
 rw [if_neg (eqF k5)] at go
 by_cases k6 : x.kind = 6
 ·exact go _ (if_pos (eqT k6)) fun h0 h1 h2 h3 => by
   have h0 := of_decide_eq_true h0
   dsimp only at h0 h1 h2 h3
   exact ⟨by omega, by omega, by omega, by omega, by omega, by omega, by omega, by omega⟩
 rw [if_neg (eqF k6)] at go
 by_cases k7 : x.kind = 7
 ·exact go _ (if_pos (eqT k7)) fun h0 h1 h2 h3 => by
   have h0 := of_decide_eq_true h0
   dsimp only at h0 h1 h2 h3
   exact ⟨by omega, by omega, by omega, by omega, by omega, by omega, by omega, by omega⟩
 rw [if_neg (eqF k7)] at go
 by_cases k8 : x.kind = 8
 ·exact go _ (if_pos (eqT k8)) fun _ h1 h2 h3 => by
   dsimp only at h1 h2 h3
   exact ⟨by omega, by omega, by omega, by omega, by omega, by omega, by omega, by omega⟩
 rw [if_neg (eqF k8)] at go
 by_cases k9 : x.kind = 9
 ·exact go _ (if_pos (eqT k9)) fun _ h1 h2 h3 => by
   exact ⟨by omega, by omega, by omega, by omega, by omega, by omega, by omega, by omega⟩
 rw [if_neg (eqF k9)] at go
 exact go _ rfl fun h0 => by cases h0
def sJ (p : ac) (l : List aa) (i : Nat) : Bool := (iw p (List.getD l i ab) (l.length : Int)).getD false
theorem CM (p : ac) (l : List aa) (i : Nat) : iw p (List.getD l i ab) (l.length : Int) = some (sJ p l i) := by
 obtain ⟨b, h1, _⟩ := BK p (List.getD l i ab) (l.length : Int)
 unfold sJ; rw [h1]; rfl
theorem EZ {p : ac} {l : List aa} {i : Nat} (h : sJ p l i = true) : oM p (List.getD l i ab) (l.length : Int) := by
 obtain ⟨b, h1, h3⟩ := BK p (List.getD l i ab) (l.length : Int)
 unfold sJ at h; rw [h1] at h
 exact h3 h
def i4 (q : Nat → Bool) : Nat → Nat → Option Nat
 | _, 0 => none
 | i, m + 1 => if q i = true then some i else i4 q (i + 1) m
def b6 {β : Type} (q : Nat → Option β) : Nat → Nat → Option (Nat × β)
 | _, 0 => none
 | i, m + 1 => match q i with
  | some b => some (i, b)
  | none => b6 q (i + 1) m
theorem ro {q : Nat → Bool} : ∀ {m i : Nat}, i4 q i m = none → ∀ k, i ≤ k → k < i + m → q k = false
 | 0, i, h, k, h1, h2 => by omega
 | m + 1, i, h, k, h1, h2 => by
  unfold i4 at h
  split at h
  ·cases h
  ·rename_i hq
   rcases Nat.eq_or_lt_of_le h1 with rfl | h3
   ·simpa using hq
   ·exact ro h k h3 (by omega)
theorem gL {β : Type} {q : Nat → Option β} : ∀ {m i : Nat}, b6 q i m = none → ∀ k, i ≤ k → k < i + m → q k = none
 | 0, i, h, k, h1, h2 => by omega
 | m + 1, i, h, k, h1, h2 => by
  unfold b6 at h
  split at h
  ·cases h
  ·rename_i hq
   rcases Nat.eq_or_lt_of_le h1 with rfl | h3
   ·exact hq
   ·exact gL h k h3 (by omega)
theorem rp {q : Nat → Bool} : ∀ {m i k : Nat}, i4 q i m = some k → i ≤ k ∧ k < i + m ∧ q k = true
 | m + 1, i, k, h => by
  unfold i4 at h
  split at h
  ·cases h; exact ⟨Nat.le_refl _, by omega, by assumption⟩
  ·have := rp h; exact ⟨by omega, by omega, this.2.2⟩
theorem lh {β : Type} {q : Nat → Option β} : ∀ {m i : Nat} {k : Nat × β}, b6 q i m = some k → i ≤ k.1 ∧ k.1 < i + m ∧ q k.1 = some k.2
 | m + 1, i, k, h => by
  unfold b6 at h
  split at h
  ·cases h; exact ⟨Nat.le_refl _, by omega, by assumption⟩
  ·have := lh h; exact ⟨by omega, by omega, this.2.2⟩
theorem xc (p : ac) (x4 : Int) (x6 : List (List aa)) (x7 x8 : Int) (l : List aa) (hl : l.length ≤ 65536) : ∀ (m i : Nat), i + m = l.length → ct p.globals p.locks p.slots p.funcs x4 l x6 x7 x8 l (l.length : Int) (i : Int) =
  some (match i4 (fun i => !sJ p l i) i m with | some k => .x0 k 3 | none => .x1)
 | 0, i, h => by rw [ct, iN (by omega)]; rfl
 | m + 1, i, h => by
  rw [ct, iP (by omega), iP (by omega), iP (by omega), Int.toNat_natCast, bind_some (CM p l i), inc i (by omega)]
  unfold i4
  cases hb : sJ p l i with
  | false => rfl
  | true => exact xc p x4 x6 x7 x8 l hl m (i + 1) (by omega)
def xV (p : ac) (f : Nat) : Option (Int × Int) :=
 if (List.getD p.funcs f []).length = 0 then some (-1, 1) else if (List.getD p.funcs f []).length > 64 then some (-1, 4) else (i4 (fun i => !sJ p (List.getD p.funcs f []) i) 0 (List.getD p.funcs f []).length).map fun k => ((k : Int), 3)
theorem zw (p : ac) (hn : p.funcs.length ≤ 65536) : ∀ (m i : Nat), i + m = p.funcs.length → cR p.globals p.locks p.slots p.funcs p.funcs (p.funcs.length : Int) (i : Int) =
  some (match b6 (xV p) i m with | some (f, a, b) => .x0 f a b | none => .x1)
 | 0, i, h => by rw [cR, iN (by omega)]; rfl
 | m + 1, i, h => by
  rw [cR, iP (by omega), iP (by omega), iP (by omega), Int.toNat_natCast, inc i (by omega)]
  unfold b6
  have ih := zw p hn m (i + 1) (by omega)
  rcases Nat.eq_zero_or_pos (List.getD p.funcs i []).length with h0 | h0
  ·rw [if_pos (eqT (by omega)), show xV p i = some (-1, 1) from if_pos h0]
  ·rw [if_neg (eqF (by omega))]
   by_cases h1 : (List.getD p.funcs i []).length > 64
   ·rw [iP (by omega), show xV p i = some (-1, 4) by unfold xV; rw [if_neg (by omega), if_pos h1]]
   ·rw [iN (by omega)]
    have h2 := xc p (i : Int) p.funcs (p.funcs.length : Int) (i : Int) (List.getD p.funcs i []) (by omega) (List.getD p.funcs i []).length 0 (by omega)
    rw [show ((0 : Nat) : Int) = 0 from rfl] at h2
    rw [bind_some h2, show xV p i = (i4 (fun k => !sJ p (List.getD p.funcs i []) k) 0 (List.getD p.funcs i []).length).map fun k => ((k : Int), 3) by unfold xV; rw [if_neg (by omega), if_neg h1]]
    cases i4 (fun k => !sJ p (List.getD p.funcs i []) k) 0 (List.getD p.funcs i []).length with
    | some k => rfl
    | none => exact ih
abbrev FS := List (List aa)
def Edge (fs : FS) (a b : Nat) : Prop := ∃ i, i < (List.getD fs a []).length ∧ (List.getD (List.getD fs a []) i ab).kind = 7 ∧ (List.getD (List.getD fs a []) i ab).arg = (b : Int)
inductive jK (fs : FS) : Nat → Nat → Prop
 | refl (a : Nat) : jK fs a a
 | step (a b c : Nat) : Edge fs a b → jK fs b c → jK fs a c
theorem jK.snoc {fs : FS} {a b c : Nat} (h : jK fs a b) (e : Edge fs b c) : jK fs a c := by
 induction h with
 | refl a => exact .step _ _ _ e (.refl _)
 | step a b d h _ ih => exact .step _ _ _ h (ih e)
theorem jK.trans {fs : FS} {a b c : Nat} (h : jK fs a b) (k : jK fs b c) : jK fs a c := by
 induction h with
 | refl a => exact k
 | step a b d h _ ih => exact .step _ _ _ h (ih k)
theorem zx {fs : FS} {S : Nat → Prop} (hS : ∀ x, S x → ∀ y, Edge fs x y → S y) {a b : Nat} (h : jK fs a b) : S a → S b := by
 induction h with
 | refl a => exact id
 | step a b c e _ ih => exact fun ha => ih (hS a ha b e)
def fA (fs : FS) : Prop := ∀ f i, f < fs.length → i < (List.getD fs f []).length → (List.getD (List.getD fs f []) i ab).kind = 7 → 0 ≤ (List.getD (List.getD fs f []) i ab).arg ∧ (List.getD (List.getD fs f []) i ab).arg < fs.length
theorem kL {α : Type} {l : List α} {i : Nat} {d : α} (h : l.length ≤ i) : List.getD l i d = d := by simp [List.getD, h]
theorem Edge.lt {fs : FS} {a b : Nat} (hc : fA fs) (h : Edge fs a b) : a < fs.length ∧ b < fs.length := by
 obtain ⟨i, h1, h2, h3⟩ := h
 rcases Nat.lt_or_ge a fs.length with h4 | h4
 ·have := hc a i h4 h1 h2
  exact ⟨h4, by omega⟩
 ·rw [kL h4] at h1
  cases h1
def Sn (s : List Bool) (x : Nat) : Prop := List.getD s x false = true
theorem Sn.lt {s : List Bool} {x : Nat} (h : Sn s x) : x < s.length := by
 rcases Nat.lt_or_ge x s.length with h1 | h1
 ·exact h1
 ·unfold Sn at h; rw [kL h1] at h; cases h
theorem fa {s : List Bool} {a x : Nat} (ha : a < s.length) : Sn (s.set a true) x ↔ x = a ∨ Sn s x := by
 unfold Sn
 by_cases h : x = a
 ·subst h; simp [List.getD, ha]
 ·have : a ≠ x := fun e => h e.symm
  simp [List.getD, List.getElem?_set, this, h]
theorem uu : ∀ (l m : List Bool), l.length = m.length → (∀ x, Sn l x → Sn m x) → m.count false ≤ l.count false
 | [], [], _, _ => Nat.le_refl _
 | a :: l, b :: m, hl, h => by
  have ih := uu l m (by simpa using hl) fun x hx => h (x + 1) hx
  have h0 := h 0
  unfold Sn at h0
  cases a <;> cases b <;> simp_all <;> omega
theorem mf {s : List Bool} {a : Nat} (ha : a < s.length) (h : ¬ Sn s a) : (s.set a true).count false + 1 = s.count false := by
 have h1 : s[a] = false := by
  unfold Sn at h
  simpa [List.getD, ha] using h
 rw [List.count_set ha]
 have : 0 < s.count false := by
  rw [← h1]; exact List.count_pos_iff.2 (List.getElem_mem ha)
 simp [h1]
 omega
structure rq (fs : FS) (to : Nat) (s s' : List Bool) : Prop where
 len : s'.length = s.length
 mono : ∀ x, Sn s x → Sn s' x
 closed : ∀ x, Sn s' x → Sn s x ∨ (x ≠ to ∧ ∀ y, Edge fs x y → Sn s' y)
theorem DJ (p : ac) (hc : fA p.funcs) (to : Nat) (n a : Nat) (ha : a < p.funcs.length) (hat : a ≠ to) (hlen : (List.getD p.funcs a []).length ≤ 65536)
  (self : List Bool → ac → Int → Int → Option (Bool × List Bool))
  (hs : ∀ (s : List Bool) (b : Nat), s.length = p.funcs.length → b < p.funcs.length → s.count false < n → ∃ r s', self s p (b : Int) (to : Int) = some (r, s') ∧ s'.length = p.funcs.length ∧ (r = true → jK p.funcs b to) ∧ (r = false → Sn s' b ∧ rq p.funcs to s s')) :
  ∀ (m i : Nat) (s : List Bool), i + m = (List.getD p.funcs a []).length → s.length = p.funcs.length → s.count false < n → Sn s a →
  (∃ s', bj self s p.globals p.locks p.slots p.funcs (to : Int) (List.getD p.funcs a []) ((List.getD p.funcs a []).length : Int) (i : Int) = some (.x0 s' true) ∧ s'.length = p.funcs.length ∧ jK p.funcs a to) ∨
  (∃ s', bj self s p.globals p.locks p.slots p.funcs (to : Int) (List.getD p.funcs a []) ((List.getD p.funcs a []).length : Int) (i : Int) = some (.x1 s') ∧ rq p.funcs to s s' ∧ ∀ k, i ≤ k → k < (List.getD p.funcs a []).length → (List.getD (List.getD p.funcs a []) k ab).kind = 7 → Sn s' (List.getD (List.getD p.funcs a []) k ab).arg.toNat)
 | 0, i, s, h, hl, hn, hsa => by
  rw [bj, iN (by omega)]
  exact .inr ⟨s, rfl, ⟨rfl, fun x hx => hx, fun x hx => .inl hx⟩, fun k h1 h2 => by omega⟩
 | m + 1, i, s, h, hl, hn, hsa => by
  rw [bj, iP (by omega), iP (by omega), iP (by omega), Int.toNat_natCast, inc i (by omega)]
  by_cases hk : (List.getD (List.getD p.funcs a []) i ab).kind = 7
  ·rw [if_pos (eqT hk)]
   have harg := hc a i ha (by omega) hk
   obtain ⟨b, hb⟩ : ∃ b : Nat, (List.getD (List.getD p.funcs a []) i ab).arg = (b : Int) := ⟨_, (Int.toNat_of_nonneg harg.1).symm⟩
   have hE : Edge p.funcs a b := ⟨i, by omega, hk, hb⟩
   rw [hb] at harg ⊢
   obtain ⟨r, s1, q1, q2, q3, q4⟩ := hs s b hl (by omega) hn
   rw [bind_some q1]
   cases r with
   | true =>
    rw [if_pos rfl]
    exact .inl ⟨s1, rfl, q2, .step _ _ _ hE (q3 rfl)⟩
   | false =>
    rw [if_neg (show ¬ (false, s1).1 = true from Bool.false_ne_true), if_pos (decide_eq_true (by show s1.length = s.length; omega))]
    obtain ⟨q5, q6⟩ := q4 rfl
    have hmono := uu s s1 (by omega) q6.mono
    rcases DJ p hc to n a ha hat hlen self hs m (i + 1) s1 (by omega) q2 (by omega) (q6.mono _ hsa) with ⟨s', g1, g2⟩ | ⟨s', g1, g2, g3⟩
    ·exact .inl ⟨s', g1, g2⟩
    ·refine .inr ⟨s', g1, ⟨g2.len.trans q6.len, fun x hx => g2.mono x (q6.mono x hx), fun x hx => ?_⟩, fun k h1 h2 h3 => ?_⟩
     ·rcases g2.closed x hx with h4 | h4
      ·rcases q6.closed x h4 with h5 | h5
       ·exact .inl h5
       ·exact .inr ⟨h5.1, fun y hy => g2.mono y (h5.2 y hy)⟩
      ·exact .inr h4
     ·rcases Nat.eq_or_lt_of_le h1 with rfl | h4
      ·rw [hb, Int.toNat_natCast]
       exact g2.mono _ q5
      ·exact g3 k h4 h2 h3
  ·rw [if_neg (eqF hk)]
   rcases DJ p hc to n a ha hat hlen self hs m (i + 1) s (by omega) hl hn hsa with ⟨s', g1, g2⟩ | ⟨s', g1, g2, g3⟩
   ·exact .inl ⟨s', g1, g2⟩
   ·refine .inr ⟨s', g1, g2, fun k h1 h2 h3 => ?_⟩
    rcases Nat.eq_or_lt_of_le h1 with rfl | h4
    ·exact absurd h3 hk
    ·exact g3 k h4 h2 h3
theorem xd (p : ac) (hc : fA p.funcs) (hlen : ∀ f, (List.getD p.funcs f []).length ≤ 65536) (to : Nat) : ∀ (n : Nat) (s : List Bool) (a : Nat), s.length = p.funcs.length → a < p.funcs.length → s.count false < n →
  ∃ r s', cW n s p (a : Int) (to : Int) = some (r, s') ∧ s'.length = p.funcs.length ∧ (r = true → jK p.funcs a to) ∧ (r = false → Sn s' a ∧ rq p.funcs to s s' ∧ a ≠ to)
 | 0, s, a, hl, ha, hn => by omega
 | n + 1, s, a, hl, ha, hn => by
  show ∃ r s', fj (cW n) s p (a : Int) (to : Int) = some (r, s') ∧ _
  unfold fj
  by_cases hat : a = to
  ·rw [if_pos (eqT (by omega))]
   subst hat
   exact ⟨true, s, rfl, hl, fun _ => .refl _, (fun h => by cases h)⟩
  ·rw [if_neg (eqF (by omega)), iP (by omega), iP (by omega), Int.toNat_natCast]
   by_cases hsn : Sn s a
   ·rw [if_pos (show List.getD s a false = true from hsn)]
    exact ⟨false, s, rfl, hl, (fun h => by cases h), fun _ => ⟨hsn, ⟨rfl, fun x hx => hx, fun x hx => .inl hx⟩, hat⟩⟩
   ·rw [if_neg (show ¬ List.getD s a false = true from hsn), iP (by omega)]
    have hcount := mf (by omega) hsn
    rcases DJ p hc to n a ha hat (hlen a) (cW n) (fun s b h1 h2 h3 => by
     obtain ⟨r, s', q1, q2, q3, q4⟩ := xd p hc hlen to n s b h1 h2 h3
     exact ⟨r, s', q1, q2, q3, fun h => ⟨(q4 h).1, (q4 h).2.1⟩⟩) (List.getD p.funcs a []).length 0 (s.set a true) (by omega) (by simpa using hl) (by omega) ((fa (by omega)).2 (.inl rfl)) with ⟨s', g1, g2, g3⟩ | ⟨s', g1, g2, g3⟩
    ·rw [show ((0 : Nat) : Int) = 0 from rfl] at g1
     rw [bind_some g1]
     exact ⟨true, s', rfl, g2, fun _ => g3, fun h => by cases h⟩
    ·rw [show ((0 : Nat) : Int) = 0 from rfl] at g1
     rw [bind_some g1]
     have hsub : ∀ x, Sn s x → Sn s' x := fun x hx => g2.mono x ((fa (by omega)).2 (.inr hx))
     refine ⟨false, s', rfl, by have := g2.len; rw [List.length_set] at this; omega, (fun h => by cases h), fun _ => ⟨g2.mono a ((fa (by omega)).2 (.inl rfl)), ⟨by have := g2.len; rw [List.length_set] at this; omega, hsub, fun x hx => ?_⟩, hat⟩⟩
     rcases g2.closed x hx with h1 | h1
     ·rcases (fa (by omega)).1 h1 with rfl | h1
      ·refine .inr ⟨hat, fun y hy => ?_⟩
       obtain ⟨k, k1, k2, k3⟩ := hy
       have := g3 k (Nat.zero_le _) k1 k2
       rw [k3, Int.toNat_natCast] at this
       exact this
      ·exact .inl h1
     ·exact .inr h1
theorem i5 (n x : Nat) : ¬ Sn (List.replicate n false) x := by
 unfold Sn
 simp only [List.getD, List.getElem?_replicate]
 split <;> simp
theorem AE (p : ac) (hc : fA p.funcs) (hlen : ∀ f, (List.getD p.funcs f []).length ≤ 65536) (hn : p.funcs.length ≤ 500) (a to : Nat) (ha : a < p.funcs.length) : ∃ r s', gp (List.replicate p.funcs.length false) p (a : Int) (to : Int) = some (r, s') ∧ (r = true ↔ jK p.funcs a to) := by
 unfold gp
 obtain ⟨r, s', q1, q2, q3, q4⟩ := xd p hc hlen to 1000 (List.replicate p.funcs.length false) a (by simp) ha (by have := List.count_le_length (a := false) (l := List.replicate p.funcs.length false); simp at this ⊢; omega)
 refine ⟨r, s', q1, q3, fun hp => ?_⟩
 cases r with
 | true => rfl
 | false =>
  exfalso
  obtain ⟨h1, h2, h3⟩ := q4 rfl
  have hcl : ∀ x, Sn s' x → x ≠ to ∧ ∀ y, Edge p.funcs x y → Sn s' y := fun x hx => (h2.closed x hx).resolve_left (i5 _ _)
  exact (hcl to (zx (fun x hx => (hcl x hx).2) hp h1)).1 rfl
theorem CN (q : Nat → Bool) (i m : Nat) : i4 q i (m + 1) = if q i = true then some i else i4 q (i + 1) m := rfl
theorem eK {β : Type} (q : Nat → Option β) (i m : Nat) : b6 q i (m + 1) = match q i with
  | some b => some (i, b)
  | none => b6 q (i + 1) m := rfl
def Bad (fs : FS) (f i : Nat) : Prop := (List.getD (List.getD fs f []) i ab).kind = 7 ∧ ∃ a : Nat, (List.getD (List.getD fs f []) i ab).arg = (a : Int) ∧ jK fs a f
noncomputable def AF (fs : FS) (f i : Nat) : Bool := @decide (Bad fs f i) (Classical.propDecidable _)
theorem uv {fs : FS} {f i : Nat} : AF fs f i = true ↔ Bad fs f i := by
 unfold AF
 exact @decide_eq_true_iff _ (Classical.propDecidable _)
theorem zy (p : ac) (hc : fA p.funcs) (hlen : ∀ f, (List.getD p.funcs f []).length ≤ 65536) (hn : p.funcs.length ≤ 500) (f : Nat) (hf : f < p.funcs.length) (x5 : FS) (x6 x7 : Int) : ∀ (m i : Nat), i + m = (List.getD p.funcs f []).length → cn p.globals p.locks p.slots p.funcs (f : Int) x5 x6 x7 (List.getD p.funcs f []) ((List.getD p.funcs f []).length : Int) (i : Int) =
  some (match i4 (AF p.funcs f) i m with | some k => .x0 k true | none => .x1)
 | 0, i, h => by rw [cn, iN (by omega)]; rfl
 | m + 1, i, h => by
  have ih := zy p hc hlen hn f hf x5 x6 x7 m (i + 1) (by omega)
  have hl := hlen f
  rw [cn, iP (by omega), iP (by omega), iP (by omega), Int.toNat_natCast, inc i (by omega), ih]
  rw [CN]
  by_cases hk : (List.getD (List.getD p.funcs f []) i ab).kind = 7
  ·rw [if_pos (eqT hk), iP (by omega), if_pos (decide_eq_true (by simp only [aF]; omega)), Int.toNat_natCast]
   have harg := hc f i hf (by omega) hk
   obtain ⟨b, hb⟩ : ∃ b : Nat, (List.getD (List.getD p.funcs f []) i ab).arg = (b : Int) := ⟨_, (Int.toNat_of_nonneg harg.1).symm⟩
   rw [hb] at harg ⊢
   obtain ⟨r, s', q1, q2⟩ := AE p hc hlen hn b f (by omega)
   rw [bind_some q1]
   have hq : AF p.funcs f i = r := by
    rw [Bool.eq_iff_iff, uv, q2]
    constructor
    ·rintro ⟨_, a, h1, h2⟩
     have : a = b := by omega
     rw [← this]; exact h2
    ·exact fun h => ⟨hk, b, hb, h⟩
   rw [hq]
   cases r with
   | true => rfl
   | false => rfl
  ·rw [if_neg (eqF hk)]
   have hq : AF p.funcs f i = false := by
    rw [Bool.eq_false_iff]
    intro h
    exact hk (uv.1 h).1
   rw [hq]
   rfl
noncomputable def F2 (fs : FS) (f : Nat) : Option Nat := i4 (AF fs f) 0 (List.getD fs f []).length
theorem zz (p : ac) (hc : fA p.funcs) (hlen : ∀ f, (List.getD p.funcs f []).length ≤ 65536) (hn : p.funcs.length ≤ 500) : ∀ (m i : Nat), i + m = p.funcs.length → cS p.globals p.locks p.slots p.funcs p.funcs (p.funcs.length : Int) (i : Int) =
  some (match b6 (F2 p.funcs) i m with | some (f, k) => .x0 f k true | none => .x1)
 | 0, i, h => by rw [cS, iN (by omega)]; rfl
 | m + 1, i, h => by
  have ih := zz p hc hlen hn m (i + 1) (by omega)
  have h2 := zy p hc hlen hn i (by omega) p.funcs (p.funcs.length : Int) (i : Int) (List.getD p.funcs i []).length 0 (by omega)
  rw [show ((0 : Nat) : Int) = 0 from rfl] at h2
  rw [cS, iP (by omega), iP (by omega), iP (by omega), Int.toNat_natCast, inc i (by omega), ih, bind_some h2]
  rw [eK]
  unfold F2
  cases i4 (AF p.funcs i) 0 (List.getD p.funcs i []).length with
  | some k => rfl
  | none => rfl
inductive Via (fs : FS) (k : Nat) : Nat → Nat → Prop
 | edge (a b : Nat) : Edge fs a b → Via fs k a b
 | comp (a c b : Nat) : Via fs k a c → c < k → Via fs k c b → Via fs k a b
def so (fs : FS) (a b : Nat) : Prop := ∃ c, Edge fs a c ∧ jK fs c b
theorem so.trans {fs : FS} {a b c : Nat} (h : so fs a b) (k : so fs b c) : so fs a c := by
 obtain ⟨x, h1, h2⟩ := h
 obtain ⟨y, k1, k2⟩ := k
 exact ⟨x, h1, h2.trans (.step _ _ _ k1 k2)⟩
theorem Via.zero {fs : FS} {a b : Nat} (h : Via fs 0 a b) : Edge fs a b := by
 cases h with
 | edge _ _ e => exact e
 | comp _ _ _ _ h _ => omega
theorem Via.mono {fs : FS} {k : Nat} {a b : Nat} (h : Via fs k a b) : Via fs (k + 1) a b := by
 induction h with
 | edge a b e => exact .edge a b e
 | comp a c b _ hc _ ih1 ih2 => exact .comp a c b ih1 (by omega) ih2
theorem Via.succ {fs : FS} {k : Nat} {a b : Nat} (h : Via fs (k + 1) a b) : Via fs k a b ∨ (Via fs k a k ∧ Via fs k k b) := by
 induction h with
 | edge a b e => exact .inl (.edge a b e)
 | comp a c b _ hc _ ih1 ih2 =>
  by_cases hk : c = k
  ·subst hk
   have h1 : Via fs c a c := ih1.elim id fun h => h.1
   have h2 : Via fs c c b := ih2.elim id fun h => h.2
   exact .inr ⟨h1, h2⟩
  ·have hlt : c < k := by omega
   rcases ih1 with h1 | ⟨h1, h1'⟩ <;> rcases ih2 with h2 | ⟨h2, h2'⟩
   ·exact .inl (.comp a c b h1 hlt h2)
   ·exact .inr ⟨.comp a c k h1 hlt h2, h2'⟩
   ·exact .inr ⟨h1, .comp k c b h1' hlt h2⟩
   ·exact .inr ⟨h1, h2'⟩
theorem xe {α : Type} (t : List α) (x d : α) (a : Nat) : List.getD (t ++ [x]) a d = if a = t.length then x else List.getD t a d := by
 by_cases h : a = t.length
 ·subst h; simp [List.getD]
 ·rw [if_neg h]
  rcases Nat.lt_or_ge a t.length with h1 | h1
  ·simp [List.getD, List.getElem?_append_left h1]
  ·rw [kL (by simp; omega), kL (by omega)]
structure bw (p : ac) : Prop where
 globals : 0 ≤ p.globals ∧ p.globals ≤ 16
 locks : 0 ≤ p.locks ∧ p.locks ≤ 16
 slots : 0 ≤ p.slots ∧ p.slots ≤ 8
 funcs : 0 < p.funcs.length ∧ p.funcs.length ≤ 16
 len : ∀ f, f < p.funcs.length → 0 < (List.getD p.funcs f []).length ∧ (List.getD p.funcs f []).length ≤ 64
 node : ∀ f i, f < p.funcs.length → i < (List.getD p.funcs f []).length → oM p (List.getD (List.getD p.funcs f []) i ab) ((List.getD p.funcs f []).length : Int)
 acyc : ∀ f i, f < p.funcs.length → i < (List.getD p.funcs f []).length → ¬ Bad p.funcs f i
theorem bw.calls {p : ac} (h : bw p) : fA p.funcs := fun f i h1 h2 h3 => (h.node f i h1 h2).call h3
theorem bw.le {p : ac} (h : bw p) (f : Nat) : (List.getD p.funcs f []).length ≤ 64 := by
 rcases Nat.lt_or_ge f p.funcs.length with h1 | h1
 ·exact (h.len f h1).2
 ·rw [kL h1]; simp
theorem CO (p : ac) : ∃ r, ay p = some r ∧ (r.2.2 = 0 → r = (0, 0, 0) ∧ bw p) ∧ 0 ≤ r.2.2 ∧ r.2.2 ≤ 8 := by
 unfold ay
 have out : ∀ (c : Bool) (v : Int × Int × Int) (a : Option (Int × Int × Int)), (¬ c = true → ∃ r, a = some r ∧ (r.2.2 = 0 → r = (0, 0, 0) ∧ bw p) ∧ 0 ≤ r.2.2 ∧ r.2.2 ≤ 8) → v.2.2 ≠ 0 → 0 ≤ v.2.2 → v.2.2 ≤ 8 → ∃ r, (if c = true then some v else a) = some r ∧ (r.2.2 = 0 → r = (0, 0, 0) ∧ bw p) ∧ 0 ≤ r.2.2 ∧ r.2.2 ≤ 8 := by
  intro c v a h hv h0 h8
  by_cases hc : c = true
  ·rw [if_pos hc]; exact ⟨v, rfl, fun h => absurd h hv, h0, h8⟩
  ·rw [if_neg hc]; exact h hc
 refine out _ _ _ (fun c1 => ?_) (by decide) (by decide) (by decide)
 refine out _ _ _ (fun c2 => ?_) (by decide) (by decide) (by decide)
 refine out _ _ _ (fun c3 => ?_) (by decide) (by decide) (by decide)
 refine out _ _ _ (fun c4 => ?_) (by decide) (by decide) (by decide)
 refine out _ _ _ (fun c5 => ?_) (by decide) (by decide) (by decide)
 refine out _ _ _ (fun c6 => ?_) (by decide) (by decide) (by decide)
 refine out _ _ _ (fun c7 => ?_) (by decide) (by decide) (by decide)
 refine out _ _ _ (fun c8 => ?_) (by decide) (by decide) (by decide)
 simp only [decide_eq_true_eq, beq_iff_eq] at c1 c2 c3 c4 c5 c6 c7 c8
 have h1 := zw p (by omega) p.funcs.length 0 (by omega)
 rw [show ((0 : Nat) : Int) = 0 from rfl] at h1
 rw [bind_some h1]
 cases hb : b6 (xV p) 0 p.funcs.length with
 | some x =>
  obtain ⟨f, a, b⟩ := x
  have hx := (lh hb).2.2
  have hb0 : b ≠ 0 ∧ 0 ≤ b ∧ b ≤ 8 := by
   unfold xV at hx
   split at hx
   ·cases hx; decide
   ·split at hx
    ·cases hx; decide
    ·cases hq : i4 (fun i => !sJ p (List.getD p.funcs f []) i) 0 (List.getD p.funcs f []).length with
     | none => rw [hq] at hx; cases hx
     | some k => rw [hq] at hx; cases hx; decide
  exact ⟨(f, a, b), rfl, fun h => absurd h hb0.1, hb0.2⟩
 | none =>
  have hno := gL hb
  have hgood1 : ∀ f, f < p.funcs.length → 0 < (List.getD p.funcs f []).length ∧ (List.getD p.funcs f []).length ≤ 64 ∧ ∀ i, i < (List.getD p.funcs f []).length → sJ p (List.getD p.funcs f []) i = true := by
   intro f hf
   have := hno f (Nat.zero_le _) (by omega)
   unfold xV at this
   split at this
   ·cases this
   ·split at this
    ·cases this
    ·rename_i g1 g2
     refine ⟨by omega, by omega, fun i hi => ?_⟩
     cases hq : i4 (fun i => !sJ p (List.getD p.funcs f []) i) 0 (List.getD p.funcs f []).length with
     | some k => rw [hq] at this; cases this
     | none =>
      have := ro hq i (Nat.zero_le _) (by omega)
      simpa using this
  have hnode : ∀ f i, f < p.funcs.length → i < (List.getD p.funcs f []).length → oM p (List.getD (List.getD p.funcs f []) i ab) ((List.getD p.funcs f []).length : Int) := fun f i hf hi => EZ ((hgood1 f hf).2.2 i hi)
  have hc : fA p.funcs := fun f i g1 g2 g3 => (hnode f i g1 g2).call g3
  have hlen : ∀ f, (List.getD p.funcs f []).length ≤ 65536 := fun f => by
   rcases Nat.lt_or_ge f p.funcs.length with g | g
   ·have := (hgood1 f g).2.1; omega
   ·rw [kL g]; simp
  have h3 := zz p hc hlen (by omega) p.funcs.length 0 (by omega)
  rw [show ((0 : Nat) : Int) = 0 from rfl] at h3
  unfold lq
  rw [h3]
  simp only [bind, Option.bind_some]
  cases hq : b6 (F2 p.funcs) 0 p.funcs.length with
  | some x => exact ⟨((x.1 : Int), (x.2 : Int), 8), rfl, (fun h => by cases h), show (0 : Int) ≤ 8 by decide, show (8 : Int) ≤ 8 by decide⟩
  | none =>
   have hno2 := gL hq
   refine ⟨(0, 0, 0), rfl, fun _ => ⟨rfl, by omega, by omega, by omega, by omega, fun f hf => ⟨(hgood1 f hf).1, (hgood1 f hf).2.1⟩, hnode, fun f i hf hi hbad => ?_⟩, by decide, by decide⟩
   have := ro (hno2 f (Nat.zero_le _) (by omega)) i (Nat.zero_le _) (by omega)
   rw [uv.2 hbad] at this
   cases this
abbrev W32 := BitVec 32
theorem DK {a b : W32} (h : ∀ i, i < 32 → (a.getLsbD i = true ↔ b.getLsbD i = true)) : a = b := by
 apply BitVec.eq_of_getLsbD_eq
 intro i hi
 rw [Bool.eq_iff_iff]
 exact h i hi
theorem F3 {a : W32} {i : Nat} (h : a.getLsbD i = true) : i < 32 := by
 rcases Nat.lt_or_ge i 32 with h1 | h1
 ·exact h1
 ·rw [BitVec.getLsbD_of_ge _ _ h1] at h; cases h
theorem sq {a : W32} : a ≠ 0#32 ↔ ∃ i, a.getLsbD i = true := by
 constructor
 ·intro h
  apply Classical.byContradiction
  intro hn
  exact h (DK fun i _ => ⟨fun hi => absurd ⟨i, hi⟩ hn, fun hi => by simp at hi⟩)
 ·rintro ⟨i, hi⟩ rfl
  simp at hi
def one (id : Int) : W32 := if 0 ≤ id ∧ id < 32 then (1#32) <<< id.toNat else 0#32
theorem fc (id : Int) : bS id = some (one id) := by
 unfold bS one
 by_cases h0 : id < 0
 ·rw [if_pos (decide_eq_true h0), if_neg (by omega)]
 ·rw [if_neg (by simpa using h0)]
  by_cases h1 : id ≥ 32
  ·rw [if_pos (decide_eq_true h1), if_neg (by omega)]
  ·rw [if_neg (by simpa using h1), iP (by omega), if_pos (by omega)]
theorem jZ (id : Int) (i : Nat) : (one id).getLsbD i = true ↔ id = (i : Int) ∧ i < 32 := by
 unfold one
 split
 ·rename_i h
  simp only [BitVec.getLsbD_shiftLeft, Bool.and_eq_true, decide_eq_true_eq, Bool.not_eq_true', decide_eq_false_iff_not, BitVec.getLsbD_one]
  omega
 ·rename_i h
  simp
  omega
theorem uw (k : Int) (l : List aa) (hl : l.length ≤ 65536) : ∀ (m i : Nat) (x : W32), i + m = l.length → ∃ x', cX k x l (l.length : Int) (i : Int) = some x' ∧ ∀ b, x'.getLsbD b = true ↔ x.getLsbD b = true ∨ (b < 32 ∧ ∃ j, i ≤ j ∧ j < l.length ∧ (List.getD l j ab).kind = k ∧ (List.getD l j ab).arg = (b : Int))
 | 0, i, x, h => by
  rw [cX, iN (by omega)]
  exact ⟨x, rfl, fun b => ⟨.inl, fun h => h.elim id fun ⟨_, j, h1, h2, _⟩ => by omega⟩⟩
 | m + 1, i, x, h => by
  rw [cX, iP (by omega), iP (by omega), iP (by omega), Int.toNat_natCast, inc i (by omega)]
  by_cases hk : (List.getD l i ab).kind = k
  ·rw [if_pos (eqT hk), bind_some (fc _)]
   obtain ⟨x', q1, q2⟩ := uw k l hl m (i + 1) (x ||| one (List.getD l i ab).arg) (by omega)
   refine ⟨x', q1, fun b => ?_⟩
   rw [q2, BitVec.getLsbD_or, Bool.or_eq_true, jZ]
   constructor
   ·rintro ((h1 | ⟨h1, h2⟩) | ⟨h1, j, h2, h3⟩)
    ·exact .inl h1
    ·exact .inr ⟨h2, i, Nat.le_refl _, by omega, hk, h1⟩
    ·exact .inr ⟨h1, j, by omega, h3⟩
   ·rintro (h1 | ⟨h1, j, h2, h3, h4, h5⟩)
    ·exact .inl (.inl h1)
    ·rcases Nat.eq_or_lt_of_le h2 with rfl | h6
     ·exact .inl (.inr ⟨h5, h1⟩)
     ·exact .inr ⟨h1, j, h6, h3, h4, h5⟩
  ·rw [if_neg (eqF hk)]
   obtain ⟨x', q1, q2⟩ := uw k l hl m (i + 1) x (by omega)
   refine ⟨x', q1, fun b => ?_⟩
   rw [q2]
   constructor
   ·rintro (h1 | ⟨h1, j, h2, h3⟩)
    ·exact .inl h1
    ·exact .inr ⟨h1, j, by omega, h3⟩
   ·rintro (h1 | ⟨h1, j, h2, h3, h4, h5⟩)
    ·exact .inl h1
    ·rcases Nat.eq_or_lt_of_le h2 with rfl | h6
     ·exact absurd h4 hk
     ·exact .inr ⟨h1, j, h6, h3, h4, h5⟩
theorem zA (l : List aa) (k : Int) (hl : l.length ≤ 65536) : ∃ x, iy l k = some x ∧ ∀ b, x.getLsbD b = true ↔ b < 32 ∧ ∃ j, j < l.length ∧ (List.getD l j ab).kind = k ∧ (List.getD l j ab).arg = (b : Int) := by
 obtain ⟨x, q1, q2⟩ := uw k l hl l.length 0 0#32 (by omega)
 rw [show ((0 : Nat) : Int) = 0 from rfl] at q1
 unfold iy
 rw [bind_some q1]
 exact ⟨x, rfl, fun b => by rw [q2]; simp⟩
theorem ux (fs : FS) (hn : fs.length ≤ 65536) (hlen : ∀ f, (List.getD fs f []).length ≤ 65536) : ∀ (m f : Nat) (t : List W32), f + m = fs.length → t.length = f → (∀ x b, x < f → ((List.getD t x 0#32).getLsbD b = true ↔ b < 32 ∧ Edge fs x b)) →
  ∃ t', cP t fs (fs.length : Int) (f : Int) = some t' ∧ t'.length = fs.length ∧ ∀ x b, x < fs.length → ((List.getD t' x 0#32).getLsbD b = true ↔ b < 32 ∧ Edge fs x b)
 | 0, f, t, h, h1, h2 => by
  rw [cP, iN (by omega)]
  exact ⟨t, rfl, by omega, fun x b hx => h2 x b (by omega)⟩
 | m + 1, f, t, h, h1, h2 => by
  obtain ⟨x, q1, q2⟩ := zA (List.getD fs f []) 7 (hlen f)
  rw [cP, iP (by omega), iP (by omega), iP (by omega), Int.toNat_natCast, bind_some q1, if_pos (Nat.ble_eq_true_of_le (by simp only [List.length_singleton, aF]; omega)), inc f (by omega)]
  refine ux fs hn hlen m (f + 1) (t ++ [x]) (by omega) (by simp [h1]) fun y b hy => ?_
  rw [xe]
  split
  ·rename_i e
   rw [q2]
   have : y = f := by omega
   subst this
   exact Iff.rfl
  ·exact h2 y b (by omega)
theorem uy (p : ac) (hn : p.funcs.length ≤ 65536) (hlen : ∀ f, (List.getD p.funcs f []).length ≤ 65536) : ∃ t, eT p = some t ∧ t.length = p.funcs.length ∧ ∀ x b, x < p.funcs.length → ((List.getD t x 0#32).getLsbD b = true ↔ b < 32 ∧ Edge p.funcs x b) := by
 obtain ⟨t, q1, q2⟩ := ux p.funcs hn hlen p.funcs.length 0 [] (by omega) rfl (fun x b hx => by omega)
 rw [show ((0 : Nat) : Int) = 0 from rfl] at q1
 unfold eT
 rw [bind_some q1]
 exact ⟨t, rfl, q2⟩
def eS (f : Nat → Bool) : Nat → Nat
 | 0 => 0
 | n + 1 => eS f n + (f n).toNat
theorem fd {f g : Nat → Bool} : ∀ {n : Nat}, (∀ i, i < n → f i = g i) → eS f n = eS g n
 | 0, _ => rfl
 | n + 1, h => by
  show eS f n + (f n).toNat = eS g n + (g n).toNat
  rw [fd fun i hi => h i (by omega), h n (by omega)]
theorem nc (f : Nat → Bool) : ∀ n, eS f n ≤ n
 | 0 => Nat.le_refl _
 | n + 1 => by
  have := nc f n
  show eS f n + (f n).toNat ≤ n + 1
  have : (f n).toNat ≤ 1 := Bool.toNat_le _
  omega
theorem nf {f : Nat → Bool} : ∀ {n : Nat}, eS f n = 0 ↔ ∀ i, i < n → f i = false
 | 0 => ⟨fun _ i hi => by omega, fun _ => rfl⟩
 | n + 1 => by
  show eS f n + (f n).toNat = 0 ↔ _
  constructor
  ·intro h i hi
   have h1 : eS f n = 0 := by omega
   have h2 : (f n).toNat = 0 := by omega
   by_cases hin : i = n
   ·subst hin; cases hf : f i with
    | false => rfl
    | true => rw [hf] at h2; cases h2
   ·exact nf.1 h1 i (by omega)
  ·intro h
   rw [nf.2 fun i hi => h i (by omega), h n (by omega)]
   rfl
theorem uz {f g : Nat → Bool} {k : Nat} : ∀ {n : Nat}, k < n → f k = true → g k = false → (∀ i, i ≠ k → g i = f i) → eS g n + 1 = eS f n
 | 0, h, _, _, _ => by omega
 | n + 1, h, h1, h2, h3 => by
  show eS g n + (g n).toNat + 1 = eS f n + (f n).toNat
  by_cases hk : k = n
  ·subst hk
   rw [fd (f := g) (g := f) fun i hi => h3 i (by omega), h1, h2]
   rfl
  ·have := uz (n := n) (by omega) h1 h2 h3
   rw [h3 n (fun e => hk e.symm)]
   omega
theorem tg : ∀ v, v < 256 → (eV fk v).toNat = eS (fun i => v.testBit i) 8 := by decide +kernel
theorem DL : ByteArray.size fk = 256 := by decide +kernel
theorem pV (f : Nat → Bool) (n : Nat) : ∀ m, eS f (n + m) = eS f n + eS (fun i => f (n + i)) m
 | 0 => rfl
 | m + 1 => by
  show eS f (n + m) + (f (n + m)).toNat = eS f n + (eS (fun i => f (n + i)) m + (f (n + m)).toNat)
  rw [pV f n m]
  omega
theorem E0 (x : W32) : dM x = some ((eS (fun i => x.getLsbD i) 32 : Nat) : Int) := by
 unfold dM
 have e24 : BitVec.toNat (24#64) = 24 := rfl
 have e16 : BitVec.toNat (16#64) = 16 := rfl
 have e8 : BitVec.toNat (8#64) = 8 := rfl
 rw [e24, e16, e8]
 have hb : ∀ (y : W32), (y &&& 255#32).toNat < 256 := fun y => by
  rw [BitVec.toNat_and]
  exact Nat.lt_of_le_of_lt Nat.and_le_right (by decide)
 have h24 : (x >>> 24).toNat < 256 := by
  rw [BitVec.toNat_ushiftRight, Nat.shiftRight_eq_div_pow]
  have := x.isLt
  omega
 have b24 : eS (fun i => (x >>> 24).toNat.testBit i) 8 = eS (fun i => x.getLsbD (24 + i)) 8 := fd fun i hi => by
  show (x >>> 24).getLsbD i = _
  rw [BitVec.getLsbD_ushiftRight]
 have b255 : ∀ (y : W32) i, i < 8 → (y &&& 255#32).toNat.testBit i = y.getLsbD i := fun y i hi => by
  show (y &&& 255#32).getLsbD i = _
  rw [BitVec.getLsbD_and]
  have : (255#32).getLsbD i = true := by
   have : ∀ i, i < 8 → (255#32).getLsbD i = true := by decide
   exact this i hi
  rw [this, Bool.and_true]
 have b16 : eS (fun i => (x >>> 16 &&& 255#32).toNat.testBit i) 8 = eS (fun i => x.getLsbD (16 + i)) 8 := fd fun i hi => by
  rw [b255 _ i hi, BitVec.getLsbD_ushiftRight]
 have b8 : eS (fun i => (x >>> 8 &&& 255#32).toNat.testBit i) 8 = eS (fun i => x.getLsbD (8 + i)) 8 := fd fun i hi => by
  rw [b255 _ i hi, BitVec.getLsbD_ushiftRight]
 have b0 : eS (fun i => (x &&& 255#32).toNat.testBit i) 8 = eS (fun i => x.getLsbD i) 8 := fd fun i hi => b255 _ i hi
 rw [DL, iP (by omega), if_pos (decide_eq_true (by have := hb (x >>> 16); omega)), if_pos (decide_eq_true (by have := hb (x >>> 8); omega)), if_pos (decide_eq_true (by have := hb x; omega))]
 have t24 := tg _ h24
 have t16 := tg _ (hb (x >>> 16))
 have t8 := tg _ (hb (x >>> 8))
 have t0 := tg _ (hb x)
 rw [b24] at t24
 rw [b16] at t16
 rw [b8] at t8
 rw [b0] at t0
 have hs : eS (fun i => x.getLsbD i) 32 = eS (fun i => x.getLsbD i) 8 + eS (fun i => x.getLsbD (8 + i)) 8 + eS (fun i => x.getLsbD (16 + i)) 8 + eS (fun i => x.getLsbD (24 + i)) 8 := by
  have h1 := pV (fun i => x.getLsbD i) 24 8
  have h2 := pV (fun i => x.getLsbD i) 16 8
  have h3 := pV (fun i => x.getLsbD i) 8 8
  simp only [Nat.reduceAdd] at h1 h2 h3
  omega
 have l24 := nc (fun i => x.getLsbD (24 + i)) 8
 have l16 := nc (fun i => x.getLsbD (16 + i)) 8
 have l8 := nc (fun i => x.getLsbD (8 + i)) 8
 have l0 := nc (fun i => x.getLsbD i) 8
 congr 1
 rw [hs]
 simp only [BitVec.toNat_add]
 rw [t24, t16, t8, t0]
 omega
theorem DM (x : W32) : lr x = some ((eS (fun i => x.getLsbD i) 32 : Nat) : Int) := by
 unfold lr
 rw [bind_some (E0 x)]
theorem oN (m : W32) (id : Int) : bT m id = some (if 0 ≤ id ∧ id < 32 then m.getLsbD id.toNat else false) := by
 unfold bT
 by_cases h0 : id ≥ 0
 ·rw [if_pos (decide_eq_true h0)]
  by_cases h1 : id < 32
  ·rw [if_pos (decide_eq_true h1), iP (by omega), if_pos (by omega)]
   congr 1
   rw [Bool.eq_iff_iff, beq_iff_eq]
   constructor
   ·intro h
    have := congrArg (fun v => BitVec.getLsbD v 0) h
    simpa using this
   ·intro h
    apply DK
    intro i hi
    rw [BitVec.getLsbD_and, BitVec.getLsbD_ushiftRight, BitVec.getLsbD_one]
    by_cases h2 : i = 0
    ·subst h2; simp [h]
    ·simp [h2]
  ·rw [if_neg (by simpa using h1), if_neg (by omega)]
 ·rw [if_neg (by simpa using h0), if_neg (by omega)]
def BL : Nat → List Int → Prop
 | _, [] => True
 | n, x :: l => (n : Int) ≤ x ∧ x < 32 ∧ BL (x.toNat + 1) l
def swp (l : List Int) (i k : Nat) : List Int := List.set (List.set l i (List.getD l k 0)) k (List.getD l i 0)
theorem th (l : List Int) (i k : Nat) : (swp l i k).length = l.length := by simp [swp]
theorem uA (l : List Int) (i k : Nat) (hi : i < l.length) (hk : k < l.length) : (swp l i k).Perm l := by
 refine List.perm_iff_count.2 fun a => ?_
 have e1 : l.getD k 0 = l[k] := by simp [List.getD, hk]
 have e2 : l.getD i 0 = l[i] := by simp [List.getD, hi]
 unfold swp
 rw [e1, e2, List.count_set (by simpa using hk), List.count_set hi, List.getElem_set]
 have c1 : 0 < l.count l[i] := List.count_pos_iff.2 (List.getElem_mem hi)
 have c2 : 0 < l.count l[k] := List.count_pos_iff.2 (List.getElem_mem hk)
 by_cases hik : i = k
 ·subst hik
  simp only [if_true]
  by_cases ha : l[i] = a
  ·subst ha; simp
  ·have : (l[i] == a) = false := by simpa using ha
   simp [this]
 ·rw [if_neg hik]
  by_cases ha : l[i] = a <;> by_cases hb : l[k] = a
  ·simp [ha, hb]; subst ha; omega
  ·simp [ha, hb]; subst ha; omega
  ·simp [ha, hb]
  ·simp [ha, hb]
theorem xW (l : List Int) (i k : Int) (hi : 0 ≤ i) (hi' : i < l.length) (hk : 0 ≤ k) (hk' : k < l.length) : cw l i k = some (decide (List.getD l i.toNat 0 < List.getD l k.toNat 0)) := by
 unfold cw
 rw [if_pos (decide_eq_true hi), if_pos (decide_eq_true hi'), if_pos (decide_eq_true hk), if_pos (decide_eq_true hk')]
theorem xX (l : List Int) (i k : Int) (hi : 0 ≤ i) (hi' : i < l.length) (hk : 0 ≤ k) (hk' : k < l.length) : cx l i k = some (swp l i.toNat k.toNat) := by
 unfold cx
 rw [if_pos (decide_eq_true hk), if_pos (decide_eq_true hk'), if_pos (decide_eq_true hi), if_pos (decide_eq_true hi')]
 rfl
theorem Fy : ∀ (n : Nat) (l : List Int) (j : Int), j.toNat ≤ n → 0 ≤ j → j < l.length → l.length ≤ 1000000 → ∃ l', gP l j = some l' ∧ l'.Perm l
 | n, l, j, hn, h0, hj, hl => by
  rw [gP]
  rcases Int.lt_or_le j 1 with hj1 | hj1
  ·have : j = 0 := by omega
   subst this
   rw [if_pos (by decide)]
   exact ⟨l, rfl, .refl _⟩
  ·have e1 : aD j 1 = j - 1 := i7 (by omega) (by omega)
   have e3 : (j - 1).tdiv 2 = (j - 1) / 2 := Int.tdiv_eq_ediv_of_nonneg (by omega)
   have e2 : zL (aD j 1) 2 = (j - 1) / 2 := by
    rw [e1]
    unfold zL
    rw [e3]
    exact uO (by omega) (by omega)
   rw [e2]
   have hi0 : 0 ≤ (j - 1) / 2 := by omega
   have hi1 : (j - 1) / 2 < j := by omega
   rw [if_neg (eqF (by omega)), bind_some (xW l j ((j - 1) / 2) h0 hj hi0 (by omega))]
   split
   ·exact ⟨l, rfl, .refl _⟩
   ·rw [bind_some (xX l _ _ hi0 (by omega) h0 hj)]
    have hp := uA l ((j - 1) / 2).toNat j.toNat (by omega) (by omega)
    have hlen := th l ((j - 1) / 2).toNat j.toNat
    rw [if_pos (decide_eq_true hlen)]
    match n, hn with
    | 0, hn => omega
    | n + 1, hn =>
     obtain ⟨l', h1, h2⟩ := Fy n (swp l ((j - 1) / 2).toNat j.toNat) ((j - 1) / 2) (by omega) hi0 (by rw [hlen]; omega) (by rw [hlen]; exact hl)
     exact ⟨l', h1, h2.trans hp⟩
theorem BM (x1 : Int) (N : Nat) : ∀ (n : Nat) (l : List Int) (i : Int), N - i.toNat ≤ n → 0 ≤ i → i < l.length → N ≤ l.length → l.length ≤ 1000000 → ∃ r, cT l x1 (N : Int) i = some r ∧ r.1.Perm l
 | n, l, i, hn, h0, hi, hN, hl => by
  rw [cT]
  have e1 : dO 2 i = 2 * i := yi (by omega) (by omega)
  have e2 : am (dO 2 i) 1 = 2 * i + 1 := by rw [e1]; exact j7 (by omega) (by omega)
  have e3 : am (am (dO 2 i) 1) 1 = 2 * i + 2 := by rw [e2, j7 (by omega) (by omega)]; omega
  rw [e3, e2]
  have step : ∀ j : Int, i < j → j < (N : Int) → ∃ r, (cT (swp l i.toNat j.toNat) x1 (N : Int) j) = some r ∧ r.1.Perm l := by
   intro j h1 h2
   have hp := uA l i.toNat j.toNat (by omega) (by omega)
   have hlen := th l i.toNat j.toNat
   match n, hn with
   | 0, hn => omega
   | n + 1, hn =>
    obtain ⟨r, h3, h4⟩ := BM x1 N n (swp l i.toNat j.toNat) j (by omega) (by omega) (by rw [hlen]; omega) (by rw [hlen]; exact hN) (by rw [hlen]; exact hl)
    exact ⟨r, h3, h4.trans hp⟩
  have go : ∀ j : Int, i < j → j < (N : Int) → ∃ r, (bind (cw l j i) fun v => if (!v) = true then some (l, i) else bind (cx l i j) fun v => if (decide ((List.length v : Nat) = List.length l)) = true then cT v x1 (N : Int) j else none) = some r ∧ r.1.Perm l := by
   intro j h1 h2
   rw [bind_some (xW l j i (by omega) (by omega) h0 hi)]
   split
   ·exact ⟨(l, i), rfl, .refl _⟩
   ·rw [bind_some (xX l i j h0 hi (by omega) (by omega)), if_pos (decide_eq_true (th _ _ _))]
    exact step j h1 h2
  by_cases h1 : (2 * i + 1 : Int) ≥ N
  ·rw [if_pos (decide_eq_true h1)]; exact ⟨(l, i), rfl, .refl _⟩
  ·rw [if_neg (by simpa using h1), if_neg (by simp; omega)]
   by_cases h2 : (2 * i + 2 : Int) < N
   ·rw [if_pos (decide_eq_true h2), bind_some (xW l (2 * i + 2) (2 * i + 1) (by omega) (by omega) (by omega) (by omega))]
    split
    ·exact go (2 * i + 2) (by omega) h2
    ·exact go (2 * i + 1) (by omega) (by omega)
   ·rw [if_neg (by simpa using h2)]
    exact go (2 * i + 1) (by omega) (by omega)
theorem BN (l : List Int) (x : Int) (hl : l.length ≤ 65536) : ∃ l', kO l x = some l' ∧ l'.Perm (l ++ [x]) := by
 unfold kO jF ee yy
 rw [if_pos (Nat.ble_eq_true_of_le (by simp only [List.length_singleton, aF]; omega))]
 simp only [bind, Option.bind_some]
 have e1 : aD (((l ++ [x]).length : Nat) : Int) 1 = l.length := by
  rw [List.length_append, List.length_singleton, i7 (by omega) (by omega)]; omega
 rw [e1]
 obtain ⟨l', h1, h2⟩ := Fy l.length (l ++ [x]) (l.length : Int) (by omega) (by omega) (by simp; omega) (by simp; omega)
 rw [h1]
 exact ⟨l', rfl, h2⟩
theorem F4 (l : List Int) (h0 : 0 < l.length) (hl : l.length ≤ 65536) : ∃ x l', qC l = some (x, l') ∧ (l' ++ [x]).Perm l := by
 unfold qC ee
 have e1 : aD ((l.length : Nat) : Int) 1 = ((l.length - 1 : Nat) : Int) := by rw [i7 (by omega) (by omega)]; omega
 simp only [bind, Option.bind_some, e1]
 rw [xX l 0 ((l.length - 1 : Nat) : Int) (by omega) (by omega) (by omega) (by omega)]
 simp only [Option.bind_some]
 have hp := uA l (0 : Int).toNat ((l.length - 1 : Nat) : Int).toNat (by simp; omega) (by omega)
 have hlen := th l (0 : Int).toNat ((l.length - 1 : Nat) : Int).toNat
 rw [if_pos (decide_eq_true hlen)]
 unfold rW
 obtain ⟨r, h1, h2⟩ := BM 0 (l.length - 1) (l.length - 1) (swp l (0 : Int).toNat ((l.length - 1 : Nat) : Int).toNat) 0 (by omega) (by omega) (by rw [hlen]; omega) (by rw [hlen]; omega) (by rw [hlen]; omega)
 rw [h1]
 simp only [bind, Option.bind_some]
 have hrl : r.1.length = l.length := h2.length_eq.trans hlen
 unfold kt
 have e2 : aD ((r.1.length : Nat) : Int) 1 = ((l.length - 1 : Nat) : Int) := by rw [hrl]; exact e1
 rw [e2, iP (by omega), iP (by omega), iP (by omega)]
 refine ⟨_, _, rfl, ?_⟩
 have e3 : (((l.length - 1 : Nat) : Int)).toNat = l.length - 1 := by omega
 rw [e3]
 have e4 : List.take (l.length - 1) r.1 ++ [r.1.getD (l.length - 1) 0] = r.1 := by
  have hlt : l.length - 1 < r.1.length := by omega
  have := List.take_append_getElem hlt
  rw [List.getD_eq_getElem?_getD, List.getElem?_eq_getElem hlt]
  simp only [Option.getD_some]
  rw [this]
  exact List.take_of_length_le (by omega)
 rw [e4]
 exact h2.trans hp
theorem pW : ∀ (n : Nat) (l : List Int), l.Nodup → (∀ x ∈ l, 0 ≤ x ∧ x < (n : Int)) → l.length ≤ n
 | 0, l, _, h => by
  cases l with
  | nil => simp
  | cons x l => have := h x (by simp); omega
 | n + 1, l, hn, h => by
  have h1 := pW n (l.erase (n : Int)) (hn.erase _) fun x hx => by
   have h2 := h x (List.mem_of_mem_erase hx)
   have h3 : x ≠ (n : Int) := fun e => by
    subst e
    exact (List.Nodup.not_mem_erase hn) hx
   omega
  have h4 : l.length ≤ (l.erase (n : Int)).length + 1 := by
   rw [List.length_erase]
   split <;> omega
  omega
def mg (c : List W32) (out : List Int) (f : Nat) : Nat := eS (fun b => (List.getD c f 0#32).getLsbD b && !decide ((b : Int) ∈ out)) 32
theorem vP {c : List W32} {out : List Int} {f : Nat} {x : Nat} (hx : x < 32) (hn : (x : Int) ∉ out) (hb : (List.getD c f 0#32).getLsbD x = true) : mg c (out ++ [(x : Int)]) f + 1 = mg c out f := by
 refine uz (k := x) hx (by simp only [hb, hn, decide_false, Bool.not_false, Bool.and_self]) (by simp) fun i hi => ?_
 have : ((i : Int) ∈ out ++ [(x : Int)]) ↔ (i : Int) ∈ out := by simp; omega
 simp only [this]
theorem vQ {c : List W32} {out : List Int} {f : Nat} {x : Nat} (hb : ¬ (List.getD c f 0#32).getLsbD x = true) : mg c (out ++ [(x : Int)]) f = mg c out f := by
 refine fd fun i hi => ?_
 by_cases h : i = x
 ·subst h
  have : (List.getD c f 0#32).getLsbD i = false := by simpa using hb
  rw [this, Bool.false_and, Bool.false_and]
 ·have : ((i : Int) ∈ out ++ [(x : Int)]) ↔ (i : Int) ∈ out := by simp; omega
  simp only [this]
structure Mid (c : List W32) (n : Nat) (out : List Int) (x : Nat) (ready wait : List Int) (g : Nat) : Prop where
 wl : wait.length = n
 nd : (out ++ [(x : Int)] ++ ready).Nodup
 rng : ∀ y ∈ out ++ [(x : Int)] ++ ready, 0 ≤ y ∧ y < (n : Int)
 lt : ∀ h, h < g → h < n → List.getD wait h 0 = (mg c (out ++ [(x : Int)]) h : Int)
 ge : ∀ h, g ≤ h → h < n → List.getD wait h 0 = (mg c out h : Int)
 zer : ∀ h : Nat, h < n → ((h : Int) ∈ out ++ [(x : Int)] ++ ready ↔ List.getD wait h 0 = 0)
theorem bX (l : List Int) (i j : Nat) (x : Int) (hi : i < l.length) : List.getD (l.set i x) j 0 = if j = i then x else List.getD l j 0 := by
 by_cases h : j = i
 ·subst h; simp [List.getD, hi]
 ·have : i ≠ j := fun e => h e.symm
  rw [if_neg h]
  simp [List.getD, List.getElem?_set, this]
theorem ng (c : List W32) (n : Nat) (hn : n ≤ 32) (hc : c.length = n) (out : List Int) (x : Nat) (hx : x < n) (x3 : List Int) : ∀ (m g : Nat) (wait ready : List Int), g + m = n → Mid c n out x ready wait g → ∃ wait' ready', bZ c wait ready x3 (x : Int) (n : Int) (g : Int) = some (wait', ready') ∧ Mid c n out x ready' wait' n
 | 0, g, wait, ready, h, hm => by
  rw [bZ, iN (by omega)]
  have : g = n := by omega
  subst this
  exact ⟨wait, ready, rfl, hm⟩
 | m + 1, g, wait, ready, h, hm => by
  have hwl := hm.wl
  have hnx : (x : Int) ∉ out := fun hin => by
   have := hm.nd
   rw [List.append_assoc, List.nodup_append] at this
   exact this.2.2 _ hin _ (by simp) rfl
  rw [bZ, iP (by omega), iP (by omega), iP (by omega), Int.toNat_natCast, bind_some (show bT (List.getD c g 0#32) (x : Int) = some ((List.getD c g 0#32).getLsbD x) by rw [oN, if_pos (by omega), Int.toNat_natCast]), inc g (by omega)]
  have hgw := hm.ge g (Nat.le_refl _) (by omega)
  by_cases hb : (List.getD c g 0#32).getLsbD x = true
  ·have hl := vP (c := c) (f := g) (by omega) hnx hb
   have hsub : aD (List.getD wait g 0) 1 = (mg c (out ++ [(x : Int)]) g : Int) := by
    rw [hgw, i7 (by omega) (by have := nc (fun b => (List.getD c g 0#32).getLsbD b && !decide ((b : Int) ∈ out)) 32; unfold mg; omega)]
    omega
   rw [if_pos hb, iP (by omega), hsub, bX _ _ _ _ (by omega), if_pos rfl]
   have hng : (g : Int) ∉ out ++ [(x : Int)] ++ ready := fun hin => by
    have := (hm.zer g (by omega)).1 hin
    omega
   by_cases h0 : mg c (out ++ [(x : Int)]) g = 0
   ·rw [if_pos (eqT (by omega))]
    have hsz := pW n ready (List.nodup_append.1 hm.nd).2.1 (fun y hy => hm.rng y (List.mem_append_right _ hy))
    obtain ⟨ready', q1, q2⟩ := BN ready (g : Int) (by omega)
    rw [bind_some q1]
    have hmem : ∀ y, y ∈ out ++ [(x : Int)] ++ ready' ↔ y ∈ out ++ [(x : Int)] ++ ready ∨ y = (g : Int) := fun y => by
     simp only [List.mem_append, q2.mem_iff, List.mem_singleton, or_assoc]
    refine ng c n hn hc out x hx x3 m (g + 1) _ ready' (by omega) ⟨by simpa using hwl, ?_, fun y hy => ?_, fun h h1 h2 => ?_, fun h h1 h2 => ?_, fun h h2 => ?_⟩
    ·have : (out ++ [(x : Int)] ++ ready').Perm (out ++ [(x : Int)] ++ ready ++ [(g : Int)]) := by
      rw [List.append_assoc (out ++ [(x : Int)])]
      exact q2.append_left _
     rw [this.nodup_iff, List.nodup_append]
     refine ⟨hm.nd, by simp, fun a ha b hb => ?_⟩
     rw [List.mem_singleton] at hb
     subst hb
     exact fun e => hng (e ▸ ha)
    ·rcases (hmem y).1 hy with h1 | rfl
     ·exact hm.rng y h1
     ·omega
    ·rw [bX _ _ _ _ (by omega)]
     split
     ·rename_i e; subst e; rfl
     ·exact hm.lt h (by omega) h2
    ·rw [bX _ _ _ _ (by omega), if_neg (by omega)]
     exact hm.ge h (by omega) h2
    ·rw [hmem, bX _ _ _ _ (by omega)]
     split
     ·rename_i e; subst e; simp [h0]
     ·rename_i e
      rw [← hm.zer h h2]
      constructor
      ·rintro (h1 | h1)
       ·exact h1
       ·omega
      ·exact .inl
   ·rw [if_neg (eqF (by omega))]
    refine ng c n hn hc out x hx x3 m (g + 1) _ ready (by omega) ⟨by simpa using hwl, hm.nd, hm.rng, fun h h1 h2 => ?_, fun h h1 h2 => ?_, fun h h2 => ?_⟩
    ·rw [bX _ _ _ _ (by omega)]
     split
     ·rename_i e; subst e; rfl
     ·exact hm.lt h (by omega) h2
    ·rw [bX _ _ _ _ (by omega), if_neg (by omega)]
     exact hm.ge h (by omega) h2
    ·rw [bX _ _ _ _ (by omega)]
     split
     ·rename_i e; subst e
      exact iff_of_false hng (by omega)
     ·exact hm.zer h h2
  ·rw [if_neg hb]
   have hl := vQ (c := c) (out := out) (f := g) hb
   refine ng c n hn hc out x hx x3 m (g + 1) wait ready (by omega) ⟨hwl, hm.nd, hm.rng, fun h h1 h2 => ?_, fun h h1 h2 => hm.ge h (by omega) h2, hm.zer⟩
   by_cases e : h = g
   ·subst e; rw [hgw, hl]
   ·exact hm.lt h (by omega) h2
structure Ord (fs : FS) (c : List W32) (n : Nat) (out ready wait : List Int) : Prop where
 wl : wait.length = n
 nd : (out ++ ready).Nodup
 rng : ∀ y ∈ out ++ ready, 0 ≤ y ∧ y < (n : Int)
 cnt : ∀ h, h < n → List.getD wait h 0 = (mg c out h : Int)
 zer : ∀ h : Nat, h < n → ((h : Int) ∈ out ++ ready ↔ List.getD wait h 0 = 0)
 top : ∀ k, k < out.length → ∀ b, Edge fs (List.getD out k 0).toNat b → (b : Int) ∈ out.take k
theorem CP {fs : FS} {c : List W32} {n : Nat} (hcb : ∀ x b, x < n → ((List.getD c x 0#32).getLsbD b = true ↔ b < 32 ∧ Edge fs x b)) (he : ∀ x b, Edge fs x b → b < 32) {out : List Int} {f : Nat} (hf : f < n) (h : mg c out f = 0) : ∀ b, Edge fs f b → (b : Int) ∈ out := by
 intro b hb
 have h1 := nf.1 h b (he f b hb)
 rw [(hcb f b hf).2 ⟨he f b hb, hb⟩, Bool.true_and] at h1
 simpa using h1
theorem xf (fs : FS) (c : List W32) (n : Nat) (hn : n ≤ 32) (hc : c.length = n) (hcb : ∀ x b, x < n → ((List.getD c x 0#32).getLsbD b = true ↔ b < 32 ∧ Edge fs x b)) (he : ∀ x b, Edge fs x b → b < 32) : ∀ (m : Nat) (out ready wait : List Int), n + 1 ≤ out.length + m → Ord fs c n out ready wait → ∃ out' wait', dU c wait ready out = some out' ∧ Ord fs c n out' [] wait'
 | m, out, ready, wait, hm, ho => by
  have hsz := pW n _ ho.nd ho.rng
  rw [List.length_append] at hsz
  rw [dU]
  unfold ee
  simp only [bind, Option.bind_some]
  by_cases hr : 0 < ready.length
  ·rw [iP (by omega)]
   obtain ⟨xi, ready1, q1, q2⟩ := F4 ready hr (by omega)
   have hxr : xi ∈ ready := q2.mem_iff.1 (by simp)
   have hxn := ho.rng xi (List.mem_append_right _ hxr)
   obtain ⟨x, rfl⟩ : ∃ x : Nat, xi = (x : Int) := ⟨xi.toNat, by omega⟩
   rw [q1]
   simp only [Option.bind_some]
   rw [if_pos (Nat.ble_eq_true_of_le (by simp only [List.length_singleton, aF]; omega))]
   have hperm : (out ++ [(x : Int)] ++ ready1).Perm (out ++ ready) := by
    rw [List.append_assoc]
    exact ((List.perm_append_comm (l₁ := [(x : Int)]) (l₂ := ready1)).trans q2).append_left out
   obtain ⟨wait2, ready2, g1, g2⟩ := ng c n hn hc out x (by omega) (out ++ [(x : Int)]) n 0 wait ready1 (by omega) ⟨ho.wl, hperm.nodup_iff.2 ho.nd, fun y hy => ho.rng y (hperm.mem_iff.1 hy), fun h h1 => by omega, fun h _ h2 => ho.cnt h h2, fun h h2 => by rw [hperm.mem_iff]; exact ho.zer h h2⟩
   rw [show ((0 : Nat) : Int) = 0 from rfl] at g1
   rw [hc, g1]
   simp only [Option.bind_some]
   have hx0 : mg c out x = 0 := by
    have h1 := (ho.zer x (by omega)).1 (List.mem_append_right _ hxr)
    have h2 := ho.cnt x (by omega)
    omega
   match m, hm with
   | 0, hm => omega
   | m + 1, hm =>
    refine xf fs c n hn hc hcb he m (out ++ [(x : Int)]) ready2 wait2 (by simp; omega) ⟨g2.wl, g2.nd, g2.rng, fun h h2 => g2.lt h h2 h2, g2.zer, fun k hk b hb => ?_⟩
    rw [List.length_append, List.length_singleton] at hk
    rw [xe] at hb
    split at hb
    ·rename_i e
     subst e
     rw [Int.toNat_natCast] at hb
     rw [List.take_append_of_le_length (Nat.le_refl _), List.take_length]
     exact CP hcb he (by omega) hx0 b hb
    ·rw [List.take_append_of_le_length (by omega)]
     exact ho.top k (by omega) b hb
  ·rw [iN (by omega)]
   have : ready = [] := List.length_eq_zero_iff.1 (by omega)
   subst this
   exact ⟨out, wait, rfl, ho⟩
theorem uB (c : List W32) (n : Nat) (hn : n ≤ 32) (hc : c.length = n) : ∀ (m i : Nat) (wait ready : List Int), i + m = n → wait.length = n → ready.Nodup → (∀ y ∈ ready, 0 ≤ y ∧ y < (i : Int)) → (∀ h, h < i → List.getD wait h 0 = (mg c [] h : Int)) → (∀ h : Nat, h < i → ((h : Int) ∈ ready ↔ List.getD wait h 0 = 0)) →
  ∃ wait' ready', cY c wait ready (n : Int) (i : Int) = some (wait', ready') ∧ wait'.length = n ∧ ready'.Nodup ∧ (∀ y ∈ ready', 0 ≤ y ∧ y < (n : Int)) ∧ (∀ h, h < n → List.getD wait' h 0 = (mg c [] h : Int)) ∧ (∀ h : Nat, h < n → ((h : Int) ∈ ready' ↔ List.getD wait' h 0 = 0))
 | 0, i, wait, ready, h, h1, h2, h3, h4, h5 => by
  rw [cY, iN (by omega)]
  have : i = n := by omega
  subst this
  exact ⟨wait, ready, rfl, h1, h2, h3, h4, h5⟩
 | m + 1, i, wait, ready, h, h1, h2, h3, h4, h5 => by
  rw [cY, iP (by omega), iP (by omega), iP (by omega), Int.toNat_natCast, bind_some (DM _), iP (by omega), inc i (by omega), bX _ _ _ _ (by omega), if_pos rfl]
  have hl : eS (fun b => (List.getD c i 0#32).getLsbD b) 32 = mg c [] i := fd fun b _ => by simp
  rw [hl]
  have hni : (i : Int) ∉ ready := fun hin => by have := h3 _ hin; omega
  by_cases h0 : mg c [] i = 0
  ·rw [if_pos (eqT (by omega))]
   have hsz := pW i ready h2 h3
   obtain ⟨ready', q1, q2⟩ := BN ready (i : Int) (by omega)
   rw [bind_some q1]
   have hmem : ∀ y, y ∈ ready' ↔ y ∈ ready ∨ y = (i : Int) := fun y => by rw [q2.mem_iff]; simp
   refine uB c n hn hc m (i + 1) _ ready' (by omega) (by simpa using h1) ?_ (fun y hy => ?_) (fun h hh => ?_) fun h hh => ?_
   ·rw [q2.nodup_iff, List.nodup_append]
    refine ⟨h2, by simp, fun a ha b hb => ?_⟩
    rw [List.mem_singleton] at hb
    subst hb
    exact fun e => hni (e ▸ ha)
   ·rcases (hmem y).1 hy with hy | rfl
    ·have := h3 y hy; omega
    ·omega
   ·rw [bX _ _ _ _ (by omega)]
    split
    ·rename_i e; subst e; rfl
    ·exact h4 h (by omega)
   ·rw [hmem, bX _ _ _ _ (by omega)]
    split
    ·rename_i e; subst e; simp [h0]
    ·rw [← h5 h (by omega)]
     constructor
     ·rintro (h6 | h6)
      ·exact h6
      ·omega
     ·exact .inl
  ·rw [if_neg (eqF (by omega))]
   refine uB c n hn hc m (i + 1) _ ready (by omega) (by simpa using h1) h2 (fun y hy => by have := h3 y hy; omega) (fun h hh => ?_) fun h hh => ?_
   ·rw [bX _ _ _ _ (by omega)]
    split
    ·rename_i e; subst e; rfl
    ·exact h4 h (by omega)
   ·rw [bX _ _ _ _ (by omega)]
    split
    ·rename_i e; subst e; exact iff_of_false hni (by omega)
    ·exact h5 h (by omega)
theorem F5 (n : Nat) (l : List Nat) (hd : l.Nodup) (h : ∀ x ∈ l, x < n) : l.length ≤ n := by
 have := pW n (l.map Int.ofNat) (by
  rw [List.nodup_iff_pairwise_ne, List.pairwise_map]
  exact (List.nodup_iff_pairwise_ne.1 hd).imp fun {a b} (h : a ≠ b) => fun e => h (Int.ofNat.inj e)) (fun x hx => by
  obtain ⟨y, hy, rfl⟩ := List.mem_map.1 hx
  have := h y hy
  exact ⟨Int.natCast_nonneg y, by show (y : Int) < n; omega⟩)
 simpa using this
theorem zB {fs : FS} {n : Nat} {S : Nat → Prop} (hS : ∀ x, S x → x < n) (hstep : ∀ x, S x → ∃ y, S y ∧ Edge fs x y) (hac : ∀ f, f < n → ¬ so fs f f) : ∀ (m : Nat) (V : List Nat) (u : Nat), V.Nodup → (∀ v ∈ V, v < n ∧ so fs v u) → u ∉ V → S u → n ≤ V.length + m → False
 | m, V, u, hd, hV, hu, hs, hl => by
  have h1 : (u :: V).Nodup := List.nodup_cons.2 ⟨hu, hd⟩
  have h2 := F5 n (u :: V) h1 fun x hx => by
   rcases List.mem_cons.1 hx with rfl | hx
   ·exact hS _ hs
   ·exact (hV x hx).1
  rw [List.length_cons] at h2
  match m, hl with
  | 0, hl => omega
  | m + 1, hl =>
   obtain ⟨y, hy, e⟩ := hstep u hs
   have huy : so fs u y := ⟨y, e, .refl _⟩
   refine zB hS hstep hac m (u :: V) y h1 (fun v hv => ?_) (fun hv => ?_) hy (by rw [List.length_cons]; omega)
   ·rcases List.mem_cons.1 hv with rfl | hv
    ·exact ⟨hS _ hs, huy⟩
    ·exact ⟨(hV v hv).1, (hV v hv).2.trans huy⟩
   ·rcases List.mem_cons.1 hv with rfl | hv
    ·exact hac _ (hS _ hs) huy
    ·exact hac _ (hV _ hv).1 ((hV _ hv).2.trans huy)
theorem bw.trans {p : ac} (h : bw p) (f : Nat) (hf : f < p.funcs.length) : ¬ so p.funcs f f := by
 rintro ⟨c, ⟨i, h1, h2, h3⟩, h4⟩
 exact h.acyc f i hf h1 ⟨h2, c, h3, h4⟩
structure DN (fs : FS) (out : List Int) : Prop where
 nd : out.Nodup
 rng : ∀ y ∈ out, 0 ≤ y ∧ y < (fs.length : Int)
 all : ∀ f : Nat, f < fs.length → (f : Int) ∈ out
 top : ∀ k, k < out.length → ∀ b, Edge fs (List.getD out k 0).toNat b → (b : Int) ∈ out.take k
theorem lk (p : ac) (hg : bw p) (hk : ay p = some (0, 0, 0)) : ∃ out, fl p = some (0, out) ∧ DN p.funcs out := by
 obtain ⟨c, q1, q2, q3⟩ := uy p (by have := hg.funcs; omega) (fun f => by have := hg.le f; omega)
 have hn := hg.funcs.2
 have he : ∀ x b, Edge p.funcs x b → b < 32 := fun x b e => by have := (e.lt hg.calls).2; omega
 unfold fl
 rw [bind_some hk, if_neg (by decide), bind_some q1, iP (by omega), if_pos (decide_eq_true (by simp only [aF]; omega)), Int.toNat_natCast, q2]
 obtain ⟨wait, ready, g1, g2, g3, g4, g5, g6⟩ := uB c p.funcs.length (by omega) q2 p.funcs.length 0 (List.replicate p.funcs.length 0) [] (by omega) (by simp) (by simp) (by simp) (fun h hh => by omega) (fun h hh => by omega)
 rw [show ((0 : Nat) : Int) = 0 from rfl] at g1
 rw [bind_some g1]
 obtain ⟨out, wait', k1, k2⟩ := xf p.funcs c p.funcs.length (by omega) q2 q3 he (p.funcs.length + 1) [] ready wait (by simp) ⟨g2, by simpa using g3, by simpa using g4, g5, by simpa using g6, fun k hk => by simp at hk⟩
 rw [bind_some k1]
 refine ⟨out, rfl, by simpa using k2.nd, by simpa using k2.rng, fun f hf => ?_, k2.top⟩
 apply Classical.byContradiction
 intro hno
 have hS : ∀ x, (x < p.funcs.length ∧ (x : Int) ∉ out) → ∃ y, (y < p.funcs.length ∧ (y : Int) ∉ out) ∧ Edge p.funcs x y := by
  rintro x ⟨hx, hxo⟩
  apply Classical.byContradiction
  intro hall
  have h0 : mg c out x = 0 := by
   refine nf.2 fun b hb => ?_
   cases hbit : (List.getD c x 0#32).getLsbD b with
   | false => rfl
   | true =>
    have e := ((q3 x b hx).1 hbit).2
    have hbn := (e.lt hg.calls).2
    have hin : (b : Int) ∈ out := by
     apply Classical.byContradiction
     intro h
     exact hall ⟨b, ⟨hbn, h⟩, e⟩
    simp [hin]
  have h1 := k2.cnt x hx
  rw [h0] at h1
  have := (k2.zer x hx).2 h1
  rw [List.append_nil] at this
  exact hxo this
 exact zB (n := p.funcs.length) (S := fun x => x < p.funcs.length ∧ (x : Int) ∉ out) (fun x h => h.1) hS hg.trans p.funcs.length [] f (by simp) (by simp) (by simp) ⟨hf, hno⟩ (by simp)
def succ (x : aa) : List Int := if x.kind = 9 then [] else if x.kind = 8 then [x.next, x.alt] else [x.next]
theorem fQ (x : aa) : cy x = some (succ x) := by
 unfold cy succ
 by_cases h : x.kind = 9
 ·rw [if_pos (eqT h), if_pos h]
 ·rw [if_neg (eqF h), if_neg h]
  by_cases h8 : x.kind = 8
  ·rw [if_pos (eqT h8), if_pos h8]
  ·rw [if_neg (eqF h8), if_neg h8]
theorem mh (x : aa) : (succ x).length ≤ 2 := by
 unfold succ
 split
 ·simp
 ·split <;> simp
theorem j5 {p : ac} {x : aa} {n : Int} (h : oM p x n) (hn : 1 ≤ n) : ∀ y ∈ succ x, 0 ≤ y ∧ y < n := by
 intro y hy
 unfold succ at hy
 split at hy
 ·cases hy
 ·rename_i h9
  have h1 := h.next h9
  split at hy
  ·rename_i h8
   have h2 := h.alt h8
   simp at hy
   rcases hy with rfl | rfl <;> omega
  ·simp at hy
   subst hy; omega
def To (l : List aa) (i y : Nat) : Prop := i < l.length ∧ y < l.length ∧ (y : Int) ∈ succ (List.getD l i ab)
inductive Aft (l : List aa) (fr : List Int) : Nat → Prop
 | first {i y : Nat} : (i : Int) ∈ fr → To l i y → Aft l fr y
 | more {i y : Nat} : Aft l fr i → To l i y → Aft l fr y
theorem uC (l : List aa) (hl : l.length ≤ 65536) (js : List Int) (hj : js.length ≤ 65536) : ∀ (m i : Nat) (s : List Bool) (t : List Int), i + m = js.length → s.length = l.length → t.length + s.count false ≤ 65536 → ∃ s' t', aP s t js l (js.length : Int) (i : Int) = some (s', t') ∧ s'.length = l.length ∧ t'.length + s'.count false = t.length + s.count false ∧ (∀ y, Sn s' y ↔ Sn s y ∨ (y < l.length ∧ (y : Int) ∈ js.drop i)) ∧ (∀ z, z ∈ t → z ∈ t') ∧ (∀ y, Sn s' y → Sn s y ∨ (y : Int) ∈ t') ∧ (∀ z, z ∈ t' → z ∈ t ∨ ∃ y : Nat, z = (y : Int) ∧ Sn s' y)
 | 0, i, s, t, h, hs, hc => by
  rw [aP, iN (by omega), List.drop_eq_nil_of_le (by omega)]
  exact ⟨s, t, rfl, hs, rfl, fun y => by simp, fun z h => h, fun y h => .inl h, fun z h => .inl h⟩
 | m + 1, i, s, t, h, hs, hc => by
  have hlt : i < js.length := by omega
  have hd : js.drop i = js[i] :: js.drop (i + 1) := List.drop_eq_getElem_cons hlt
  have hg : List.getD js i 0 = js[i] := by simp [List.getD, hlt]
  rw [aP, iP (by omega), iP (by omega), iP (by omega), Int.toNat_natCast, hg, hd, inc i (by omega)]
  have skip : ¬ (∃ y : Nat, js[i] = (y : Int) ∧ y < l.length ∧ ¬ Sn s y) → ∃ s' t', aP s t js l (js.length : Int) ((i + 1 : Nat) : Int) = some (s', t') ∧ s'.length = l.length ∧ t'.length + s'.count false = t.length + s.count false ∧ (∀ y, Sn s' y ↔ Sn s y ∨ (y < l.length ∧ (y : Int) ∈ js[i] :: js.drop (i + 1))) ∧ (∀ z, z ∈ t → z ∈ t') ∧ (∀ y, Sn s' y → Sn s y ∨ (y : Int) ∈ t') ∧ (∀ z, z ∈ t' → z ∈ t ∨ ∃ y : Nat, z = (y : Int) ∧ Sn s' y) := by
   intro hno
   obtain ⟨s', t', q1, q2, q3, q4, q5, q6, q7⟩ := uC l hl js hj m (i + 1) s t (by omega) hs hc
   refine ⟨s', t', q1, q2, q3, fun y => ?_, q5, q6, q7⟩
   rw [q4, List.mem_cons]
   constructor
   ·rintro (h1 | ⟨h1, h2⟩)
    ·exact .inl h1
    ·exact .inr ⟨h1, .inr h2⟩
   ·rintro (h1 | ⟨h1, h2 | h2⟩)
    ·exact .inl h1
    ·exact .inl (Classical.byContradiction fun h3 => hno ⟨y, h2.symm, h1, h3⟩)
    ·exact .inr ⟨h1, h2⟩
  by_cases h0 : 0 ≤ js[i]
  ·rw [iP (by omega)]
   by_cases h1 : js[i] < (l.length : Int)
   ·obtain ⟨x, hx⟩ : ∃ x : Nat, js[i] = (x : Int) := ⟨js[i].toNat, by omega⟩
    rw [iP (by omega), iP (by omega), iP (by omega)]
    rw [hx] at h1 skip ⊢
    rw [Int.toNat_natCast x]
    by_cases hsx : Sn s x
    ·rw [if_neg (by rw [show List.getD s x false = true from hsx]; decide)]
     refine skip ?_
     rintro ⟨y, h2, h3, h4⟩
     have : y = x := by omega
     subst this
     exact h4 hsx
    ·have hf : List.getD s x false = false := by
      unfold Sn at hsx
      simpa using hsx
     have hcs := mf (s := s) (a := x) (by omega) hsx
     rw [if_pos (by rw [hf]; rfl), if_pos (Nat.ble_eq_true_of_le (by simp only [List.length_singleton, aF]; omega))]
     obtain ⟨s', t', q1, q2, q3, q4, q5, q6, q7⟩ := uC l hl js hj m (i + 1) (s.set x true) (t ++ [(x : Int)]) (by omega) (by simpa using hs) (by rw [List.length_append, List.length_singleton]; omega)
     refine ⟨s', t', q1, q2, by rw [q3, List.length_append, List.length_singleton]; omega, fun y => ?_, fun z hz => q5 z (List.mem_append_left _ hz), fun y hy => ?_, fun z hz => ?_⟩
     ·rw [q4, fa (by omega), List.mem_cons]
      constructor
      ·rintro ((rfl | h2) | ⟨h2, h3⟩)
       ·exact .inr ⟨by omega, .inl rfl⟩
       ·exact .inl h2
       ·exact .inr ⟨h2, .inr h3⟩
      ·rintro (h2 | ⟨h2, h3 | h3⟩)
       ·exact .inl (.inr h2)
       ·exact .inl (.inl (by omega))
       ·exact .inr ⟨h2, h3⟩
     ·rcases q6 y hy with h2 | h2
      ·rcases (fa (by omega)).1 h2 with rfl | h3
       ·exact .inr (q5 _ (by simp))
       ·exact .inl h3
      ·exact .inr h2
     ·rcases q7 z hz with h2 | h2
      ·rcases List.mem_append.1 h2 with h3 | h3
       ·exact .inl h3
       ·rw [List.mem_singleton] at h3
        exact .inr ⟨x, h3, (q4 x).2 (.inl ((fa (by omega)).2 (.inl rfl)))⟩
      ·exact .inr h2
   ·rw [iN (by omega)]
    exact skip (by rintro ⟨y, h2, h3, _⟩; omega)
  ·rw [iN (by omega)]
   exact skip (by rintro ⟨y, h2, h3, _⟩; omega)
theorem uD (l : List aa) (js : List Int) (hj : js.length ≤ 65536) : ∀ (m i : Nat) (s : List Bool) (t : List Int), i + m = js.length → a7 s t js l (js.length : Int) (i : Int) = aP s t js l (js.length : Int) (i : Int)
 | 0, i, s, t, h => by
  rw [aP, a7, iN (by omega), iN (by omega)]
 | m + 1, i, s, t, h => by
  have ih := fun s t => uD l js hj m (i + 1) s t (by omega)
  rw [aP, a7, inc i (by omega)]
  simp only [ih]
structure BO (l : List aa) (z : Int) (s : List Bool) (t : List Int) (s' : List Bool) (t' : List Int) : Prop where
 len : s'.length = l.length
 cnt : t'.length + s'.count false = t.length + s.count false
 iff : ∀ y, Sn s' y ↔ Sn s y ∨ ∃ i : Nat, z = (i : Int) ∧ To l i y
 keep : ∀ x, x ∈ t → x ∈ t'
 new : ∀ y, Sn s' y → Sn s y ∨ (y : Int) ∈ t'
 old : ∀ x, x ∈ t' → x ∈ t ∨ ∃ y : Nat, x = (y : Int) ∧ Sn s' y
theorem BO.none {l : List aa} {z : Int} {s : List Bool} {t : List Int} (hs : s.length = l.length) (h : ∀ i : Nat, z = (i : Int) → ¬ i < l.length) : BO l z s t s t :=
 ⟨hs, rfl, fun y => ⟨.inl, fun h1 => h1.elim (fun h => h) fun ⟨i, e, h2⟩ => absurd h2.1 (h i e)⟩, fun x h => h, fun y h => .inl h, fun x h => .inl h⟩
theorem BP (l : List aa) (hl : l.length ≤ 65536) (s : List Bool) (t : List Int) (z : Int) (hs : s.length = l.length) (hc : t.length + s.count false ≤ 65536) : ∃ s' t', fM s t l z = some (s', t') ∧ BO l z s t s' t' := by
 unfold fM
 by_cases h0 : z < 0
 ·rw [if_pos (decide_eq_true h0)]
  exact ⟨s, t, rfl, .none hs fun i e => by omega⟩
 ·rw [iN (by omega)]
  by_cases h1 : z ≥ (l.length : Int)
  ·rw [if_pos (decide_eq_true h1)]
   exact ⟨s, t, rfl, .none hs fun i e => by omega⟩
  ·obtain ⟨i, rfl⟩ : ∃ x : Nat, z = (x : Int) := ⟨z.toNat, by omega⟩
   have hle := mh (List.getD l i ab)
   obtain ⟨s', t', q1, q2, q3, q4, q5, q6, q7⟩ := uC l hl (succ (List.getD l i ab)) (by omega) _ 0 s t (Nat.zero_add _) hs hc
   rw [show ((0 : Nat) : Int) = 0 from rfl] at q1
   rw [iN (by omega), iP (by omega), iP (by omega), Int.toNat_natCast, bind_some (fQ _), bind_some q1]
   refine ⟨s', t', rfl, q2, q3, fun y => ?_, q5, q6, q7⟩
   rw [q4, List.drop_zero]
   constructor
   ·rintro (h2 | ⟨h2, h3⟩)
    ·exact .inl h2
    ·exact .inr ⟨i, rfl, by omega, h2, h3⟩
   ·rintro (h2 | ⟨k, h2, h3, h4, h5⟩)
    ·exact .inl h2
    ·have : k = i := by omega
     subst this
     exact .inr ⟨h4, h5⟩
theorem DO (l : List aa) (hl : l.length ≤ 65536) (s : List Bool) (t : List Int) (k : Nat) (hk : k ≤ t.length) (z : Int) (hs : s.length = l.length) (hc : (t.take k).length + s.count false ≤ 65536) : ∃ s' t', fS s t l k z = some (s', t') ∧ BO l z s (t.take k) s' t' := by
 obtain ⟨s', t', q1, q2⟩ := BP l hl s (t.take k) z hs hc
 refine ⟨s', t', ?_, q2⟩
 rw [← q1]
 unfold fS fM
 rw [if_pos (decide_eq_true hk)]
 by_cases h0 : z < 0
 ·have c0 : decide (z < 0) = true := decide_eq_true h0
  rw [if_pos c0, if_pos c0]
 ·have c0 : ¬ decide (z < 0) = true := by simpa using h0
  rw [if_neg c0, if_neg c0]
  by_cases h1 : z ≥ (l.length : Int)
  ·have c1 : decide (z ≥ (l.length : Int)) = true := decide_eq_true h1
   rw [if_pos c1, if_pos c1]
  ·have c1 : ¬ decide (z ≥ (l.length : Int)) = true := by simpa using h1
   have c2 : decide ((0 : Int) ≤ z) = true := decide_eq_true (by omega)
   have c3 : decide (z < (l.length : Int)) = true := decide_eq_true (by omega)
   rw [if_neg c1, if_neg c1, if_pos c2, if_pos c2, if_pos c3, if_pos c3, bind_some (fQ _), bind_some (fQ _)]
   have hle := mh (List.getD l z.toNat ab)
   have := uD l (succ (List.getD l z.toNat ab)) (by omega) _ 0 s (t.take k) (Nat.zero_add _)
   rw [show ((0 : Nat) : Int) = 0 from rfl] at this
   rw [this]
theorem zC (l : List aa) (hl : l.length ≤ 65536) (fr : List Int) (hf : fr.length ≤ 65536) : ∀ (m i : Nat) (s : List Bool) (t : List Int), i + m = fr.length → s.length = l.length → t.length + s.count false ≤ 65536 → (∀ y, Sn s y → (y : Int) ∈ t) → (∀ z, z ∈ t → ∃ y : Nat, z = (y : Int) ∧ Sn s y) → ∃ s' t', dI s t l fr (fr.length : Int) (i : Int) = some (s', t') ∧ s'.length = l.length ∧ t'.length + s'.count false = t.length + s.count false ∧ (∀ y, Sn s' y ↔ Sn s y ∨ ∃ x : Nat, (x : Int) ∈ fr.drop i ∧ To l x y) ∧ (∀ y, Sn s' y → (y : Int) ∈ t') ∧ (∀ z, z ∈ t' → ∃ y : Nat, z = (y : Int) ∧ Sn s' y)
 | 0, i, s, t, h, hs, hc, ha, hb => by
  rw [dI, iN (by omega), List.drop_eq_nil_of_le (by omega)]
  exact ⟨s, t, rfl, hs, rfl, fun y => by simp, ha, hb⟩
 | m + 1, i, s, t, h, hs, hc, ha, hb => by
  have hlt : i < fr.length := by omega
  have hd : fr.drop i = fr[i] :: fr.drop (i + 1) := List.drop_eq_getElem_cons hlt
  have hg : List.getD fr i 0 = fr[i] := by simp [List.getD, hlt]
  obtain ⟨s1, t1, q1, q2⟩ := BP l hl s t fr[i] hs hc
  have c1 := q2.cnt
  rw [dI, iP (by omega), iP (by omega), iP (by omega), Int.toNat_natCast, hg, hd, inc i (by omega), bind_some q1]
  obtain ⟨s', t', k1, k2, k3, k4, k5, k6⟩ := zC l hl fr hf m (i + 1) s1 t1 (by omega) q2.len (by omega) (fun y hy => (q2.new y hy).elim (fun h => q2.keep _ (ha y h)) fun h => h) (fun z hz => (q2.old z hz).elim (fun h => by
   obtain ⟨y, e, h1⟩ := hb z h
   exact ⟨y, e, (q2.iff y).2 (.inl h1)⟩) fun h => h)
  refine ⟨s', t', k1, k2, by omega, fun y => ?_, k5, k6⟩
  rw [k4, q2.iff]
  constructor
  ·rintro ((h1 | ⟨x, h1, h2⟩) | ⟨x, h1, h2⟩)
   ·exact .inl h1
   ·exact .inr ⟨x, by rw [← h1]; exact List.mem_cons_self, h2⟩
   ·exact .inr ⟨x, List.mem_cons_of_mem _ h1, h2⟩
  ·rintro (h1 | ⟨x, h1, h2⟩)
   ·exact .inl (.inl h1)
   ·rcases List.mem_cons.1 h1 with h3 | h3
    ·exact .inl (.inr ⟨x, h3.symm, h2⟩)
    ·exact .inr ⟨x, h3, h2⟩
theorem CQ {t : List Int} (h : t ≠ []) : ∃ t0 z, t = t0 ++ [z] := ⟨t.dropLast, t.getLast h, (List.dropLast_concat_getLast h).symm⟩
theorem zD (l : List aa) (hl : l.length ≤ 65536) (P : Nat → Prop) (hP : ∀ x y, P x → To l x y → P y) : ∀ (n : Nat) (s : List Bool) (t : List Int), t.length + s.count false ≤ n → n ≤ 65536 → s.length = l.length → (∀ z, z ∈ t → ∃ y : Nat, z = (y : Int) ∧ Sn s y) → (∀ y, Sn s y → P y) → (∀ x y, Sn s x → (x : Int) ∉ t → To l x y → Sn s y) → ∃ s', dJ s t l = some s' ∧ s'.length = l.length ∧ (∀ y, Sn s y → Sn s' y) ∧ (∀ y, Sn s' y → P y) ∧ ∀ x y, Sn s' x → To l x y → Sn s' y
 | n, s, t, hn, hb, hs, ht, hsP, hcl => by
  by_cases he : t = []
  ·subst he
   rw [dJ, if_neg (by simp)]
   exact ⟨s, rfl, hs, fun y h => h, hsP, fun x y hx e => hcl x y hx (by simp) e⟩
  ·obtain ⟨t0, z, rfl⟩ := CQ he
   rw [List.length_append, List.length_singleton] at hn
   have hsub : aD (((t0 ++ [z]).length : Nat) : Int) 1 = (t0.length : Int) := by
    rw [List.length_append, List.length_singleton, i7 (by omega) (by omega)]
    omega
   have htk : (t0 ++ [z]).take t0.length = t0 := by simp
   have hgz : List.getD (t0 ++ [z]) t0.length 0 = z := by simp [List.getD]
   obtain ⟨s1, t1, q1, q2⟩ := DO l hl s (t0 ++ [z]) t0.length (by simp) z hs (by rw [htk]; omega)
   rw [htk] at q2
   have c1 := q2.cnt
   have hlen : (t0 ++ [z]).length = t0.length + 1 := by simp
   rw [dJ, hsub, iP (by omega), iP (by omega), iP (by omega), iP (by omega), Int.toNat_natCast, hgz, bind_some q1]
   obtain ⟨n', rfl⟩ : ∃ n', n = n' + 1 := ⟨n - 1, by omega⟩
   obtain ⟨s', k1, k2, k3, k4, k5⟩ := zD l hl P hP n' s1 t1 (by omega) (by omega) q2.len (fun x hx => (q2.old x hx).elim (fun h => by
    obtain ⟨y, e, h1⟩ := ht x (List.mem_append_left _ h)
    exact ⟨y, e, (q2.iff y).2 (.inl h1)⟩) fun h => h) (fun y hy => ((q2.iff y).1 hy).elim (hsP y) fun ⟨i, e, h1⟩ => by
     obtain ⟨y', e', h2⟩ := ht z (by simp)
     have : y' = i := by omega
     subst this
     exact hP _ _ (hsP _ h2) h1) (fun x y hx hnx e => by
    rcases q2.new x hx with h1 | h1
    ·by_cases hxt : (x : Int) ∈ t0 ++ [z]
     ·rcases List.mem_append.1 hxt with h2 | h2
      ·exact absurd (q2.keep _ h2) hnx
      ·rw [List.mem_singleton] at h2
       exact (q2.iff y).2 (.inr ⟨x, h2.symm, e⟩)
     ·exact (q2.iff y).2 (.inl (hcl x y h1 hxt e))
    ·exact absurd h1 hnx)
   exact ⟨s', k1, k2, fun y hy => k3 y ((q2.iff y).2 (.inl hy)), k4, k5⟩
theorem DP (l : List aa) (hl : l.length ≤ 65536) (fr : List Int) (hf : fr.length ≤ 65536) : ∃ a, kf l fr = some a ∧ a.length = l.length ∧ ∀ y, Sn a y ↔ Aft l fr y := by
 have hcnt := List.count_le_length (a := false) (l := List.replicate l.length false)
 rw [List.length_replicate] at hcnt
 obtain ⟨s1, t1, q1, q2, q3, q4, q5, q6⟩ := zC l hl fr hf fr.length 0 (List.replicate l.length false) [] (Nat.zero_add _) (by simp) (by simp only [List.length_nil]; omega) (fun y h => absurd h (i5 _ _)) (fun z h => by cases h)
 rw [show ((0 : Nat) : Int) = 0 from rfl] at q1
 simp only [List.length_nil] at q3
 obtain ⟨s', k1, k2, k3, k4, k5⟩ := zD l hl (Aft l fr) (fun x y h e => .more h e) 65536 s1 t1 (by omega) (Nat.le_refl _) q2 q6 (fun y hy => by
  rcases (q4 y).1 hy with h | ⟨x, h1, h2⟩
  ·exact absurd h (i5 _ _)
  ·exact .first (by simpa using h1) h2) (fun x y hx hn _ => absurd (q5 x hx) hn)
 unfold kf
 rw [iP (by omega), if_pos (decide_eq_true (by simp only [aF]; omega)), Int.toNat_natCast, bind_some q1, bind_some k1]
 refine ⟨s', rfl, k2, fun y => ⟨k4 y, fun h => ?_⟩⟩
 induction h with
 | first h1 h2 => exact k3 _ ((q4 _).2 (.inr ⟨_, by simpa using h1, h2⟩))
 | more _ h2 ih => exact k5 _ _ ih h2
theorem BL.mono {m n : Nat} (h : m ≤ n) : ∀ {l : List Int}, BL n l → BL m l
 | [], _ => trivial
 | x :: l, hr => ⟨by have := hr.1; omega, hr.2⟩
def May (fs : FS) (of : aa → W32) (f b : Nat) : Prop := ∃ g, jK fs f g ∧ ∃ j, j < (List.getD fs g []).length ∧ (of (List.getD (List.getD fs g []) j ab)).getLsbD b = true
theorem cr (l : List W32) (i j : Nat) (x : W32) (hi : i < l.length) : List.getD (l.set i x) j 0#32 = if j = i then x else List.getD l j 0#32 := by
 by_cases h : j = i
 ·subst h; simp [List.getD, hi]
 ·have : i ≠ j := fun e => h e.symm
  rw [if_neg h]
  simp [List.getD, List.getElem?_set, this]
theorem gX {l : List Int} {k : Nat} {y : Int} (h : y ∈ l.take k) : ∃ i, i < k ∧ i < l.length ∧ List.getD l i 0 = y := by
 obtain ⟨i, hi, e⟩ := List.mem_iff_getElem.1 h
 rw [List.length_take] at hi
 refine ⟨i, by omega, by omega, ?_⟩
 rw [List.getElem_take] at e
 rw [← e]
 simp [List.getD, show i < l.length by omega]
def ofU (x : aa) : W32 := if x.kind = 4 then one x.arg else 0#32
def ofT (x : aa) : W32 := if x.kind = 1 ∨ x.kind = 2 then one x.arg else 0#32
def ofB (x : aa) : W32 := if x.kind = 5 then 1#32 else 0#32
theorem F6 (x : aa) : jR x = some (ofB x) := by
 unfold jR ofB
 by_cases h : x.kind = 5
 ·rw [if_pos (eqT h), if_pos h]
 ·rw [if_neg (eqF h), if_neg h]
theorem GG {x : aa} (h : x.kind = 7) : ofU x = 0#32 := by unfold ofU; rw [if_neg (by omega)]
theorem GH {x : aa} (h : x.kind = 7) : ofT x = 0#32 := by unfold ofT; rw [if_neg (by omega)]
theorem GI {x : aa} (h : x.kind = 7) : ofB x = 0#32 := by unfold ofB; rw [if_neg (by omega)]
theorem uE (p : ac) (hg : bw p) (f : Nat) (hf : f < p.funcs.length) (x1 : List Int) (x7 x8 : Int) : ∀ (m i : Nat) (o : List W32), i + m = (List.getD p.funcs f []).length → o.length = p.funcs.length → ∃ o', co o x1 p.globals p.locks p.slots p.funcs (f : Int) x7 x8 (List.getD p.funcs f []) ((List.getD p.funcs f []).length : Int) (i : Int) = some o' ∧ o'.length = p.funcs.length ∧ (∀ g, g ≠ f → List.getD o' g 0#32 = List.getD o g 0#32) ∧
  ∀ b, (List.getD o' f 0#32).getLsbD b = true ↔ (List.getD o f 0#32).getLsbD b = true ∨ ∃ j, i ≤ j ∧ j < (List.getD p.funcs f []).length ∧ (((List.getD (List.getD p.funcs f []) j ab).kind = 7 ∧ (List.getD o (List.getD (List.getD p.funcs f []) j ab).arg.toNat 0#32).getLsbD b = true) ∨ (ofB (List.getD (List.getD p.funcs f []) j ab)).getLsbD b = true)
 | 0, i, o, h, ho => by
  rw [co, iN (by omega)]
  exact ⟨o, rfl, ho, fun g _ => rfl, fun b => ⟨.inl, fun h => h.elim (fun x => x) fun ⟨j, h1, h2, _⟩ => by omega⟩⟩
 | m + 1, i, o, h, ho => by
  have hle := hg.le f
  rw [co, iP (by omega), iP (by omega), iP (by omega), Int.toNat_natCast i, inc i (by omega)]
  have fin : ∀ (y : W32), (∀ b, y.getLsbD b = true ↔ (((List.getD (List.getD p.funcs f []) i ab).kind = 7 ∧ (List.getD o (List.getD (List.getD p.funcs f []) i ab).arg.toNat 0#32).getLsbD b = true) ∨ (ofB (List.getD (List.getD p.funcs f []) i ab)).getLsbD b = true)) →
    ∃ o', co (o.set f (List.getD o f 0#32 ||| y)) x1 p.globals p.locks p.slots p.funcs (f : Int) x7 x8 (List.getD p.funcs f []) ((List.getD p.funcs f []).length : Int) ((i + 1 : Nat) : Int) = some o' ∧ o'.length = p.funcs.length ∧ (∀ g, g ≠ f → List.getD o' g 0#32 = List.getD o g 0#32) ∧
    ∀ b, (List.getD o' f 0#32).getLsbD b = true ↔ (List.getD o f 0#32).getLsbD b = true ∨ ∃ j, i ≤ j ∧ j < (List.getD p.funcs f []).length ∧ (((List.getD (List.getD p.funcs f []) j ab).kind = 7 ∧ (List.getD o (List.getD (List.getD p.funcs f []) j ab).arg.toNat 0#32).getLsbD b = true) ∨ (ofB (List.getD (List.getD p.funcs f []) j ab)).getLsbD b = true) := by
   intro y hy
   obtain ⟨o', q1, q2, q3, q4⟩ := uE p hg f hf x1 x7 x8 m (i + 1) (o.set f (List.getD o f 0#32 ||| y)) (by omega) (by simpa using ho)
   refine ⟨o', q1, q2, fun g hgf => by rw [q3 g hgf, cr _ _ _ _ (by omega), if_neg hgf], fun b => ?_⟩
   rw [q4, cr _ _ _ _ (by omega), if_pos rfl, BitVec.getLsbD_or, Bool.or_eq_true, hy]
   have hsame : ∀ j, j < (List.getD p.funcs f []).length → (List.getD (List.getD p.funcs f []) j ab).kind = 7 → List.getD (o.set f (List.getD o f 0#32 ||| y)) (List.getD (List.getD p.funcs f []) j ab).arg.toNat 0#32 = List.getD o (List.getD (List.getD p.funcs f []) j ab).arg.toNat 0#32 := fun j hj hk => by
    rw [cr _ _ _ _ (by omega), if_neg]
    intro e
    have hc := hg.calls f j hf hj hk
    exact hg.acyc f j hf hj ⟨hk, f, by omega, .refl _⟩
   constructor
   ·rintro ((h1 | h1) | ⟨j, h1, h2, h3⟩)
    ·exact .inl h1
    ·exact .inr ⟨i, Nat.le_refl _, by omega, h1⟩
    ·refine .inr ⟨j, by omega, h2, h3.imp (fun h4 => ⟨h4.1, ?_⟩) fun x => x⟩
     rw [← hsame j h2 h4.1]; exact h4.2
   ·rintro (h1 | ⟨j, h1, h2, h3⟩)
    ·exact .inl (.inl h1)
    ·rcases Nat.eq_or_lt_of_le h1 with rfl | h5
     ·exact .inl (.inr h3)
     ·refine .inr ⟨j, h5, h2, h3.imp (fun h4 => ⟨h4.1, ?_⟩) fun x => x⟩
      rw [hsame j h2 h4.1]; exact h4.2
  by_cases hk : (List.getD (List.getD p.funcs f []) i ab).kind = 7
  ·have hc := hg.calls f i hf (by omega) hk
   rw [if_pos (eqT hk), iP (by omega), iP (by omega), if_pos (decide_eq_true hc.1), iP (by omega), Int.toNat_natCast f]
   exact fin _ fun b => by rw [GI hk]; simp only [hk, true_and, BitVec.getLsbD_zero, Bool.false_eq_true, or_false]
  ·rw [if_neg (eqF hk), iP (by omega), iP (by omega), bind_some (F6 _), Int.toNat_natCast f]
   exact fin _ fun b => by simp only [hk, false_and, false_or]
theorem uF (p : ac) (hg : bw p) (out : List Int) (ht : DN p.funcs out) : ∀ (m k : Nat) (o : List W32), k + m = out.length → o.length = p.funcs.length → (∀ f : Nat, (f : Int) ∈ out.take k → ∀ b, (List.getD o f 0#32).getLsbD b = true ↔ May p.funcs ofB f b) → (∀ f : Nat, (f : Int) ∉ out.take k → List.getD o f 0#32 = 0#32) →
  ∃ o', dC o out p.globals p.locks p.slots p.funcs (out.length : Int) (k : Int) = some o' ∧ o'.length = p.funcs.length ∧ ∀ f : Nat, (f : Int) ∈ out → ∀ b, (List.getD o' f 0#32).getLsbD b = true ↔ May p.funcs ofB f b
 | 0, k, o, h, ho, h1, h2 => by
  rw [dC, iN (by omega)]
  rw [List.take_of_length_le (by omega)] at h1
  exact ⟨o, rfl, ho, h1⟩
 | m + 1, k, o, h, ho, h1, h2 => by
  have hn := hg.funcs.2
  have hol : out.length ≤ p.funcs.length := pW _ _ ht.nd ht.rng
  have hlt : k < out.length := by omega
  have hgk : List.getD out k 0 = out[k] := by simp [List.getD, hlt]
  have hr := ht.rng _ (List.getElem_mem hlt)
  obtain ⟨f, hf⟩ : ∃ f : Nat, out[k] = (f : Int) := ⟨out[k].toNat, by omega⟩
  rw [hf] at hr
  have hgk' := hgk.trans hf
  rw [dC, iP (by omega), iP (by omega), iP (by omega), Int.toNat_natCast k, hgk', iP (by omega), iP (by omega), Int.toNat_natCast f, inc k (by omega)]
  obtain ⟨o1, q1, q2, q3, q4⟩ := uE p hg f (by omega) out (out.length : Int) (k : Int) (List.getD p.funcs f []).length 0 o (by omega) ho
  rw [show ((0 : Nat) : Int) = 0 from rfl] at q1
  rw [bind_some q1]
  have htk : out.take (k + 1) = out.take k ++ [(f : Int)] := by rw [← List.take_append_getElem hlt, hf]
  have hnew : (f : Int) ∉ out.take k := fun hin => by
   obtain ⟨i, i1, i2, i3⟩ := gX hin
   have e1 : out[i] = out[k] := by
    rw [hf, ← i3]; simp [List.getD, i2]
   have := (List.getElem_inj ht.nd).1 e1
   omega
  refine uF p hg out ht m (k + 1) o1 (by omega) q2 (fun g hgm b => ?_) fun g hgm => ?_
  ·rw [htk, List.mem_append, List.mem_singleton] at hgm
   by_cases hgf : g = f
   ·subst hgf
    rw [q4, h2 g hnew]
    simp only [BitVec.getLsbD_zero, Bool.false_eq_true, false_or]
    constructor
    ·rintro ⟨j, _, j2, ⟨j3, j4⟩ | j3⟩
     ·have hc := hg.calls g j (by omega) j2 j3
      obtain ⟨c, hcc⟩ : ∃ c : Nat, (List.getD (List.getD p.funcs g []) j ab).arg = (c : Int) := ⟨_, (Int.toNat_of_nonneg hc.1).symm⟩
      rw [hcc, Int.toNat_natCast] at j4
      have e : Edge p.funcs g c := ⟨j, j2, j3, hcc⟩
      have hct := ht.top k hlt c (by rw [hgk', Int.toNat_natCast]; exact e)
      obtain ⟨x, hx1, hx2⟩ := (h1 c hct b).1 j4
      exact ⟨x, .step _ _ _ e hx1, hx2⟩
     ·exact ⟨g, .refl _, j, j2, j3⟩
    ·rintro ⟨x, hx1, hx2⟩
     cases hx1 with
     | refl _ => obtain ⟨j, j1, j2⟩ := hx2; exact ⟨j, Nat.zero_le _, j1, .inr j2⟩
     | step _ c _ e hp =>
      obtain ⟨j, j1, j2, j3⟩ := e
      have hct := ht.top k hlt c (by rw [hgk', Int.toNat_natCast]; exact ⟨j, j1, j2, j3⟩)
      refine ⟨j, Nat.zero_le _, j1, .inl ⟨j2, ?_⟩⟩
      rw [j3, Int.toNat_natCast]
      exact (h1 c hct b).2 ⟨x, hp, hx2⟩
   ·rw [q3 g hgf]
    exact h1 g (hgm.resolve_right (by omega)) b
  ·rw [htk, List.mem_append, List.mem_singleton, not_or] at hgm
   rw [q3 g (by omega)]
   exact h2 g hgm.1
theorem AG (p : ac) (hg : bw p) (hk : ay p = some (0, 0, 0)) : ∃ o, jS p = some (0, o) ∧ o.length = p.funcs.length ∧ ∀ f, f < p.funcs.length → ∀ b, (List.getD o f 0#32).getLsbD b = true ↔ May p.funcs ofB f b := by
 have hn := hg.funcs.2
 obtain ⟨out, q1, q2⟩ := lk p hg hk
 unfold jS
 rw [bind_some q1, if_neg (show ¬ ((0 : Int) != 0) = true by decide), iP (by omega), if_pos (decide_eq_true (by simp only [aF]; omega)), Int.toNat_natCast]
 obtain ⟨o, g1, g2, g3⟩ := uF p hg out q2 out.length 0 (List.replicate p.funcs.length 0#32) (by omega) (by simp) (fun f hf => by simp at hf) (fun f _ => by
  simp only [List.getD, List.getElem?_replicate]
  split <;> rfl)
 rw [show ((0 : Nat) : Int) = 0 from rfl] at g1
 rw [bind_some g1]
 exact ⟨o, rfl, g2, fun f hf => g3 f (q2.all f hf)⟩
theorem rr (o : List W32) (ho : o.length ≤ 32) : ∀ (m f : Nat) (x : W32), f + m = o.length → ∃ x', cV o x (o.length : Int) (f : Int) = some x' ∧ ∀ b, x'.getLsbD b = true ↔ x.getLsbD b = true ∨ (f ≤ b ∧ b < o.length ∧ List.getD o b 0#32 ≠ 0#32)
 | 0, f, x, h => by
  rw [cV, iN (by omega)]
  exact ⟨x, rfl, fun b => ⟨.inl, fun h => h.elim (fun x => x) fun ⟨h1, h2, _⟩ => by omega⟩⟩
 | m + 1, f, x, h => by
  rw [cV, iP (by omega), iP (by omega), iP (by omega), Int.toNat_natCast, inc f (by omega)]
  have hlt : (0#32 < List.getD o f 0#32) ↔ List.getD o f 0#32 ≠ 0#32 := by
   rw [BitVec.lt_def]
   constructor
   ·intro h1 e; rw [e] at h1; exact absurd h1 (by decide)
   ·intro h1
    have : (List.getD o f 0#32).toNat ≠ 0 := fun e => h1 (BitVec.eq_of_toNat_eq (by simpa using e))
    show (0#32).toNat < _
    rw [show (0#32).toNat = 0 from rfl]
    omega
  by_cases h0 : List.getD o f 0#32 ≠ 0#32
  ·rw [if_pos (decide_eq_true (hlt.2 h0)), bind_some (fc _)]
   obtain ⟨x', q1, q2⟩ := rr o ho m (f + 1) (x ||| one (f : Int)) (by omega)
   refine ⟨x', q1, fun b => ?_⟩
   rw [q2, BitVec.getLsbD_or, Bool.or_eq_true, jZ]
   constructor
   ·rintro ((h1 | ⟨h1, _⟩) | ⟨h1, h2, h3⟩)
    ·exact .inl h1
    ·have : b = f := by omega
     subst this
     exact .inr ⟨Nat.le_refl _, by omega, h0⟩
    ·exact .inr ⟨by omega, h2, h3⟩
   ·rintro (h1 | ⟨h1, h2, h3⟩)
    ·exact .inl (.inl h1)
    ·rcases Nat.eq_or_lt_of_le h1 with rfl | h4
     ·exact .inl (.inr ⟨rfl, by omega⟩)
     ·exact .inr ⟨h4, h2, h3⟩
  ·rw [if_neg (fun h1 => h0 (hlt.1 (of_decide_eq_true h1)))]
   obtain ⟨x', q1, q2⟩ := rr o ho m (f + 1) x (by omega)
   refine ⟨x', q1, fun b => ?_⟩
   rw [q2]
   constructor
   ·rintro (h1 | ⟨h1, h2, h3⟩)
    ·exact .inl h1
    ·exact .inr ⟨by omega, h2, h3⟩
   ·rintro (h1 | ⟨h1, h2, h3⟩)
    ·exact .inl h1
    ·rcases Nat.eq_or_lt_of_le h1 with rfl | h4
     ·exact absurd h3 h0
     ·exact .inr ⟨h4, h2, h3⟩
def rt (fs : FS) (f : Nat) : Prop := ∃ g, jK fs f g ∧ ∃ j, j < (List.getD fs g []).length ∧ (List.getD (List.getD fs g []) j ab).kind = 5
theorem GZ {fs : FS} {f b : Nat} (h : May fs ofB f b) : rt fs f := by
 obtain ⟨g, h1, j, h2, h3⟩ := h
 refine ⟨g, h1, j, h2, ?_⟩
 unfold ofB at h3
 split at h3
 ·assumption
 ·simp at h3
theorem GJ {fs : FS} {f : Nat} (h : rt fs f) : May fs ofB f 0 := by
 obtain ⟨g, h1, j, h2, h3⟩ := h
 refine ⟨g, h1, j, h2, ?_⟩
 unfold ofB
 rw [if_pos h3]
 decide
theorem xg (p : ac) (hg : bw p) (hk : ay p = some (0, 0, 0)) : ∃ x, ig p = some (x, 0) ∧ ∀ b, x.getLsbD b = true ↔ b < p.funcs.length ∧ rt p.funcs b := by
 have hn := hg.funcs.2
 obtain ⟨o, q1, q2, q3⟩ := AG p hg hk
 obtain ⟨x, g1, g2⟩ := rr o (by omega) o.length 0 0#32 (by omega)
 rw [show ((0 : Nat) : Int) = 0 from rfl] at g1
 unfold ig
 rw [bind_some q1, if_neg (show ¬ ((0 : Int) != 0) = true by decide), bind_some g1]
 refine ⟨x, rfl, fun b => ?_⟩
 rw [g2]
 constructor
 ·rintro (h1 | ⟨_, h2, h3⟩)
  ·simp at h1
  ·obtain ⟨c, hc⟩ := sq.1 h3
   exact ⟨by omega, GZ ((q3 b (by omega) c).1 hc)⟩
 ·rintro ⟨h1, h2⟩
  exact .inr ⟨Nat.zero_le _, by omega, sq.2 ⟨0, (q3 b h1 0).2 (GJ h2)⟩⟩
theorem DQ {a b : W32} (h : ∀ i, a.getLsbD i = true → b.getLsbD i = true) : ¬ ((a &&& ~~~b) != 0#32) = true := by
 have : a &&& ~~~b = 0#32 := DK fun i hi => by
  rw [BitVec.getLsbD_and, BitVec.getLsbD_not]
  have := h i
  simp only [BitVec.getLsbD_zero, Bool.false_eq_true, iff_false, Bool.and_eq_true, not_and]
  intro h1 _
  rw [this h1]
  decide
 simp [this]
theorem F7 (x : aa) : iW x = some (ofU x) := by
 unfold iW ofU
 by_cases h : x.kind = 4
 ·rw [if_pos (eqT h), if_pos h, bind_some (fc _)]
 ·rw [if_neg (eqF h), if_neg h]
theorem uG (p : ac) (hg : bw p) (f : Nat) (hf : f < p.funcs.length) (x1 : List Int) (x7 x8 : Int) : ∀ (m i : Nat) (o : List W32), i + m = (List.getD p.funcs f []).length → o.length = p.funcs.length → ∃ o', bG o x1 p.globals p.locks p.slots p.funcs (f : Int) x7 x8 (List.getD p.funcs f []) ((List.getD p.funcs f []).length : Int) (i : Int) = some o' ∧ o'.length = p.funcs.length ∧ (∀ g, g ≠ f → List.getD o' g 0#32 = List.getD o g 0#32) ∧
  ∀ b, (List.getD o' f 0#32).getLsbD b = true ↔ (List.getD o f 0#32).getLsbD b = true ∨ ∃ j, i ≤ j ∧ j < (List.getD p.funcs f []).length ∧ (((List.getD (List.getD p.funcs f []) j ab).kind = 7 ∧ (List.getD o (List.getD (List.getD p.funcs f []) j ab).arg.toNat 0#32).getLsbD b = true) ∨ (ofU (List.getD (List.getD p.funcs f []) j ab)).getLsbD b = true)
 | 0, i, o, h, ho => by
  rw [bG, iN (by omega)]
  exact ⟨o, rfl, ho, fun g _ => rfl, fun b => ⟨.inl, fun h => h.elim (fun x => x) fun ⟨j, h1, h2, _⟩ => by omega⟩⟩
 | m + 1, i, o, h, ho => by
  have hle := hg.le f
  rw [bG, iP (by omega), iP (by omega), iP (by omega), Int.toNat_natCast i, inc i (by omega)]
  have fin : ∀ (y : W32), (∀ b, y.getLsbD b = true ↔ (((List.getD (List.getD p.funcs f []) i ab).kind = 7 ∧ (List.getD o (List.getD (List.getD p.funcs f []) i ab).arg.toNat 0#32).getLsbD b = true) ∨ (ofU (List.getD (List.getD p.funcs f []) i ab)).getLsbD b = true)) →
    ∃ o', bG (o.set f (List.getD o f 0#32 ||| y)) x1 p.globals p.locks p.slots p.funcs (f : Int) x7 x8 (List.getD p.funcs f []) ((List.getD p.funcs f []).length : Int) ((i + 1 : Nat) : Int) = some o' ∧ o'.length = p.funcs.length ∧ (∀ g, g ≠ f → List.getD o' g 0#32 = List.getD o g 0#32) ∧
    ∀ b, (List.getD o' f 0#32).getLsbD b = true ↔ (List.getD o f 0#32).getLsbD b = true ∨ ∃ j, i ≤ j ∧ j < (List.getD p.funcs f []).length ∧ (((List.getD (List.getD p.funcs f []) j ab).kind = 7 ∧ (List.getD o (List.getD (List.getD p.funcs f []) j ab).arg.toNat 0#32).getLsbD b = true) ∨ (ofU (List.getD (List.getD p.funcs f []) j ab)).getLsbD b = true) := by
   intro y hy
   obtain ⟨o', q1, q2, q3, q4⟩ := uG p hg f hf x1 x7 x8 m (i + 1) (o.set f (List.getD o f 0#32 ||| y)) (by omega) (by simpa using ho)
   refine ⟨o', q1, q2, fun g hgf => by rw [q3 g hgf, cr _ _ _ _ (by omega), if_neg hgf], fun b => ?_⟩
   rw [q4, cr _ _ _ _ (by omega), if_pos rfl, BitVec.getLsbD_or, Bool.or_eq_true, hy]
   have hsame : ∀ j, j < (List.getD p.funcs f []).length → (List.getD (List.getD p.funcs f []) j ab).kind = 7 → List.getD (o.set f (List.getD o f 0#32 ||| y)) (List.getD (List.getD p.funcs f []) j ab).arg.toNat 0#32 = List.getD o (List.getD (List.getD p.funcs f []) j ab).arg.toNat 0#32 := fun j hj hk => by
    rw [cr _ _ _ _ (by omega), if_neg]
    intro e
    have hc := hg.calls f j hf hj hk
    exact hg.acyc f j hf hj ⟨hk, f, by omega, .refl _⟩
   constructor
   ·rintro ((h1 | h1) | ⟨j, h1, h2, h3⟩)
    ·exact .inl h1
    ·exact .inr ⟨i, Nat.le_refl _, by omega, h1⟩
    ·refine .inr ⟨j, by omega, h2, h3.imp (fun h4 => ⟨h4.1, ?_⟩) fun x => x⟩
     rw [← hsame j h2 h4.1]; exact h4.2
   ·rintro (h1 | ⟨j, h1, h2, h3⟩)
    ·exact .inl (.inl h1)
    ·rcases Nat.eq_or_lt_of_le h1 with rfl | h5
     ·exact .inl (.inr h3)
     ·refine .inr ⟨j, h5, h2, h3.imp (fun h4 => ⟨h4.1, ?_⟩) fun x => x⟩
      rw [hsame j h2 h4.1]; exact h4.2
  by_cases hk : (List.getD (List.getD p.funcs f []) i ab).kind = 7
  ·have hc := hg.calls f i hf (by omega) hk
   rw [if_pos (eqT hk), iP (by omega), iP (by omega), if_pos (decide_eq_true hc.1), iP (by omega), Int.toNat_natCast f]
   exact fin _ fun b => by rw [GG hk]; simp only [hk, true_and, BitVec.getLsbD_zero, Bool.false_eq_true, or_false]
  ·rw [if_neg (eqF hk), iP (by omega), iP (by omega), bind_some (F7 _), Int.toNat_natCast f]
   exact fin _ fun b => by simp only [hk, false_and, false_or]
theorem uH (p : ac) (hg : bw p) (out : List Int) (ht : DN p.funcs out) : ∀ (m k : Nat) (o : List W32), k + m = out.length → o.length = p.funcs.length → (∀ f : Nat, (f : Int) ∈ out.take k → ∀ b, (List.getD o f 0#32).getLsbD b = true ↔ May p.funcs ofU f b) → (∀ f : Nat, (f : Int) ∉ out.take k → List.getD o f 0#32 = 0#32) →
  ∃ o', cK o out p.globals p.locks p.slots p.funcs (out.length : Int) (k : Int) = some o' ∧ o'.length = p.funcs.length ∧ ∀ f : Nat, (f : Int) ∈ out → ∀ b, (List.getD o' f 0#32).getLsbD b = true ↔ May p.funcs ofU f b
 | 0, k, o, h, ho, h1, h2 => by
  rw [cK, iN (by omega)]
  rw [List.take_of_length_le (by omega)] at h1
  exact ⟨o, rfl, ho, h1⟩
 | m + 1, k, o, h, ho, h1, h2 => by
  have hn := hg.funcs.2
  have hol : out.length ≤ p.funcs.length := pW _ _ ht.nd ht.rng
  have hlt : k < out.length := by omega
  have hgk : List.getD out k 0 = out[k] := by simp [List.getD, hlt]
  have hr := ht.rng _ (List.getElem_mem hlt)
  obtain ⟨f, hf⟩ : ∃ f : Nat, out[k] = (f : Int) := ⟨out[k].toNat, by omega⟩
  rw [hf] at hr
  have hgk' := hgk.trans hf
  rw [cK, iP (by omega), iP (by omega), iP (by omega), Int.toNat_natCast k, hgk', iP (by omega), iP (by omega), Int.toNat_natCast f, inc k (by omega)]
  obtain ⟨o1, q1, q2, q3, q4⟩ := uG p hg f (by omega) out (out.length : Int) (k : Int) (List.getD p.funcs f []).length 0 o (by omega) ho
  rw [show ((0 : Nat) : Int) = 0 from rfl] at q1
  rw [bind_some q1]
  have htk : out.take (k + 1) = out.take k ++ [(f : Int)] := by rw [← List.take_append_getElem hlt, hf]
  have hnew : (f : Int) ∉ out.take k := fun hin => by
   obtain ⟨i, i1, i2, i3⟩ := gX hin
   have e1 : out[i] = out[k] := by
    rw [hf, ← i3]; simp [List.getD, i2]
   have := (List.getElem_inj ht.nd).1 e1
   omega
  refine uH p hg out ht m (k + 1) o1 (by omega) q2 (fun g hgm b => ?_) fun g hgm => ?_
  ·rw [htk, List.mem_append, List.mem_singleton] at hgm
   by_cases hgf : g = f
   ·subst hgf
    rw [q4, h2 g hnew]
    simp only [BitVec.getLsbD_zero, Bool.false_eq_true, false_or]
    constructor
    ·rintro ⟨j, _, j2, ⟨j3, j4⟩ | j3⟩
     ·have hc := hg.calls g j (by omega) j2 j3
      obtain ⟨c, hcc⟩ : ∃ c : Nat, (List.getD (List.getD p.funcs g []) j ab).arg = (c : Int) := ⟨_, (Int.toNat_of_nonneg hc.1).symm⟩
      rw [hcc, Int.toNat_natCast] at j4
      have e : Edge p.funcs g c := ⟨j, j2, j3, hcc⟩
      have hct := ht.top k hlt c (by rw [hgk', Int.toNat_natCast]; exact e)
      obtain ⟨x, hx1, hx2⟩ := (h1 c hct b).1 j4
      exact ⟨x, .step _ _ _ e hx1, hx2⟩
     ·exact ⟨g, .refl _, j, j2, j3⟩
    ·rintro ⟨x, hx1, hx2⟩
     cases hx1 with
     | refl _ => obtain ⟨j, j1, j2⟩ := hx2; exact ⟨j, Nat.zero_le _, j1, .inr j2⟩
     | step _ c _ e hp =>
      obtain ⟨j, j1, j2, j3⟩ := e
      have hct := ht.top k hlt c (by rw [hgk', Int.toNat_natCast]; exact ⟨j, j1, j2, j3⟩)
      refine ⟨j, Nat.zero_le _, j1, .inl ⟨j2, ?_⟩⟩
      rw [j3, Int.toNat_natCast]
      exact (h1 c hct b).2 ⟨x, hp, hx2⟩
   ·rw [q3 g hgf]
    exact h1 g (hgm.resolve_right (by omega)) b
  ·rw [htk, List.mem_append, List.mem_singleton, not_or] at hgm
   rw [q3 g (by omega)]
   exact h2 g hgm.1
theorem AH (p : ac) (hg : bw p) (hk : ay p = some (0, 0, 0)) : ∃ o, gV p = some (0, o) ∧ o.length = p.funcs.length ∧ ∀ f, f < p.funcs.length → ∀ b, (List.getD o f 0#32).getLsbD b = true ↔ May p.funcs ofU f b := by
 have hn := hg.funcs.2
 obtain ⟨out, q1, q2⟩ := lk p hg hk
 unfold gV
 rw [bind_some q1, if_neg (show ¬ ((0 : Int) != 0) = true by decide), iP (by omega), if_pos (decide_eq_true (by simp only [aF]; omega)), Int.toNat_natCast]
 obtain ⟨o, g1, g2, g3⟩ := uH p hg out q2 out.length 0 (List.replicate p.funcs.length 0#32) (by omega) (by simp) (fun f hf => by simp at hf) (fun f _ => by
  simp only [List.getD, List.getElem?_replicate]
  split <;> rfl)
 rw [show ((0 : Nat) : Int) = 0 from rfl] at g1
 rw [bind_some g1]
 exact ⟨o, rfl, g2, fun f hf => g3 f (q2.all f hf)⟩
theorem AI (p : ac) (hg : bw p) (hk : ay p = some (0, 0, 0)) : ∃ o, iX p = some (0, o) ∧ o.length = p.funcs.length ∧ ∀ f, f < p.funcs.length → ∀ b, (List.getD o f 0#32).getLsbD b = true ↔ May p.funcs ofU f b := by
 obtain ⟨o, q1, q2, q3⟩ := AH p hg hk
 unfold iX
 rw [bind_some q1]
 exact ⟨o, rfl, q2, q3⟩
def xh (fs : FS) (f : Nat) : Prop := ∃ g, g < fs.length ∧ ∃ j, j < (List.getD fs g []).length ∧ (List.getD (List.getD fs g []) j ab).kind = 5 ∧ (List.getD (List.getD fs g []) j ab).arg = (f : Int)
theorem zE (fs : FS) (hn : fs.length ≤ 65536) (hlen : ∀ f, (List.getD fs f []).length ≤ 65536) : ∀ (m i : Nat) (x : W32), i + m = fs.length → ∃ x', dK x fs (fs.length : Int) (i : Int) = some x' ∧ ∀ b, x'.getLsbD b = true ↔ x.getLsbD b = true ∨ (b < 32 ∧ ∃ g, i ≤ g ∧ g < fs.length ∧ ∃ j, j < (List.getD fs g []).length ∧ (List.getD (List.getD fs g []) j ab).kind = 5 ∧ (List.getD (List.getD fs g []) j ab).arg = (b : Int))
 | 0, i, x, h => by
  rw [dK, iN (by omega)]
  exact ⟨x, rfl, fun b => ⟨.inl, fun h => h.elim (fun x => x) fun ⟨_, g, h1, h2, _⟩ => by omega⟩⟩
 | m + 1, i, x, h => by
  obtain ⟨y, q1, q2⟩ := zA (List.getD fs i []) 5 (hlen i)
  rw [dK, iP (by omega), iP (by omega), iP (by omega), Int.toNat_natCast, bind_some q1, inc i (by omega)]
  obtain ⟨x', g1, g2⟩ := zE fs hn hlen m (i + 1) (x ||| y) (by omega)
  refine ⟨x', g1, fun b => ?_⟩
  rw [g2, BitVec.getLsbD_or, Bool.or_eq_true, q2]
  constructor
  ·rintro ((h1 | ⟨h1, h2⟩) | ⟨h1, g, h2, h3⟩)
   ·exact .inl h1
   ·exact .inr ⟨h1, i, Nat.le_refl _, by omega, h2⟩
   ·exact .inr ⟨h1, g, by omega, h3⟩
  ·rintro (h1 | ⟨h1, g, h2, h3, h4⟩)
   ·exact .inl (.inl h1)
   ·rcases Nat.eq_or_lt_of_le h2 with rfl | h5
    ·exact .inl (.inr ⟨h1, h4⟩)
    ·exact .inr ⟨h1, g, h5, h3, h4⟩
theorem zF (p : ac) (hg : bw p) : ∃ x, iz p = some x ∧ ∀ b, b < 32 → (x.getLsbD b = true ↔ xh p.funcs b) := by
 have hn := hg.funcs.2
 obtain ⟨x, q1, q2⟩ := zE p.funcs (by omega) (fun f => by have := hg.le f; omega) p.funcs.length 0 0#32 (by omega)
 rw [show ((0 : Nat) : Int) = 0 from rfl] at q1
 unfold iz
 rw [bind_some q1]
 refine ⟨x, rfl, fun b hb => ?_⟩
 rw [q2]
 constructor
 ·rintro (h1 | ⟨_, g, _, h2, h3⟩)
  ·simp at h1
  ·exact ⟨g, h2, h3⟩
 ·rintro ⟨g, h2, h3⟩
  exact .inr ⟨hb, g, Nat.zero_le _, h2, h3⟩
abbrev nde (p : ac) (f i : Nat) : aa := List.getD (List.getD p.funcs f []) i ab
abbrev sec (l : List ad) (f : Nat) : ad := List.getD l f ae
abbrev hld (l : List ad) (f i : Nat) : W32 := List.getD (sec l f).held i 0#32
def dR (a b : W32) : Bool := (a &&& ~~~b) == 0#32
theorem jr {a b : W32} : dR a b = true ↔ ∀ i, a.getLsbD i = true → b.getLsbD i = true := by
 unfold dR
 rw [beq_iff_eq]
 constructor
 ·intro h i hi
  have h1 := congrArg (fun v => BitVec.getLsbD v i) h
  have hlt := F3 hi
  simp only [BitVec.getLsbD_and, BitVec.getLsbD_not, hlt, decide_true, Bool.true_and, BitVec.getLsbD_zero, hi] at h1
  simpa using h1
 ·intro h
  have := DQ h
  simpa using this
theorem eM (a b : W32) : cB a b = some (dR a b) := rfl
def Shp (p : ac) (l : List ad) : Prop := l.length = p.funcs.length ∧ ∀ f, f < p.funcs.length → (sec l f).held.length = (List.getD p.funcs f []).length ∧ (sec l f).live.length = (List.getD p.funcs f []).length
theorem neT {a b : Int} (h : a ≠ b) : ((a : Int) != b) = true := by simpa using h
theorem neF {a b : Int} (h : a = b) : ¬ ((a : Int) != b) = true := by simpa using h
theorem uI (p : ac) (l : List ad) (hl : l.length = p.funcs.length) (hn : p.funcs.length ≤ 65536) : ∀ (m i : Nat), i + m = l.length → ∃ b, dD p.globals p.locks p.slots p.funcs l (l.length : Int) (i : Int) = some (if b = true then .x1 else .x0 false) ∧ (b = true ↔ ∀ f, i ≤ f → f < p.funcs.length → (sec l f).held.length = (List.getD p.funcs f []).length ∧ (sec l f).live.length = (List.getD p.funcs f []).length)
 | 0, i, h => by
  rw [dD, iN (by omega)]
  exact ⟨true, rfl, ⟨fun _ f h1 h2 => by omega, fun _ => rfl⟩⟩
 | m + 1, i, h => by
  rw [dD, iP (by omega), iP (by omega), iP (by omega), iP (by omega), Int.toNat_natCast i, inc i (by omega)]
  by_cases h1 : (List.getD l i ae).held.length = (List.getD p.funcs i []).length
  ·by_cases h2 : (List.getD l i ae).live.length = (List.getD p.funcs i []).length
   ·rw [if_neg (neF (by omega)), if_neg (neF (by omega))]
    obtain ⟨b, q2, q3⟩ := uI p l hl hn m (i + 1) (by omega)
    refine ⟨b, q2, ?_⟩
    rw [q3]
    constructor
    ·intro h3 f h4 h5
     rcases Nat.eq_or_lt_of_le h4 with rfl | h6
     ·exact ⟨h1, h2⟩
     ·exact h3 f h6 h5
    ·exact fun h3 f h4 h5 => h3 f (by omega) h5
   ·rw [if_neg (neF (by omega)), if_pos (neT (by omega))]
    exact ⟨false, rfl, ⟨(fun h => by cases h), fun h => absurd (h i (Nat.le_refl _) (by omega)).2 h2⟩⟩
  ·rw [if_pos (neT (by omega))]
   exact ⟨false, rfl, ⟨(fun h => by cases h), fun h => absurd (h i (Nat.le_refl _) (by omega)).1 h1⟩⟩
theorem jg (p : ac) (l : List ad) (hn : p.funcs.length ≤ 65536) : ∃ b, eF p l = some b ∧ True ∧ (b = true ↔ Shp p l) := by
 unfold eF Shp
 by_cases hl : l.length = p.funcs.length
 ·rw [if_neg (neF (by rw [hl]))]
  obtain ⟨b, q1, q3⟩ := uI p l hl hn l.length 0 (by omega)
  rw [show ((0 : Nat) : Int) = 0 from rfl] at q1
  rw [bind_some q1]
  refine ⟨b, ?_, trivial, ?_⟩
  ·cases b <;> rfl
  ·rw [q3]
   exact ⟨fun h => ⟨hl, fun f hf => h f (Nat.zero_le _) hf⟩, fun h f _ hf => h.2 f hf⟩
 ·rw [if_pos (neT (by omega))]
  exact ⟨false, rfl, trivial, ⟨(fun h => by cases h), fun h => absurd h.1 hl⟩⟩
def bhd (u : List W32) (l : List ad) (x : aa) (h : W32) : W32 :=
 if x.kind = 3 then h ||| one x.arg else if x.kind = 4 then h &&& ~~~(one x.arg) else if x.kind = 7 then (h &&& ~~~(List.getD u x.arg.toNat 0#32)) ||| (List.getD l x.arg.toNat ae).exit else h
theorem CR (c : br) (x : aa) (h : W32) (hx : x.kind = 7 → 0 ≤ x.arg ∧ x.arg < c.unlocks.length ∧ x.arg < c.l.length) : dl c x h = some (bhd c.unlocks c.l x h) := by
 unfold dl bhd
 by_cases h3 : x.kind = 3
 ·rw [if_pos (eqT h3), if_pos h3, bind_some (fc _)]
 ·rw [if_neg (eqF h3), if_neg h3]
  by_cases h4 : x.kind = 4
  ·rw [if_pos (eqT h4), if_pos h4, bind_some (fc _)]
  ·rw [if_neg (eqF h4), if_neg h4]
   by_cases h7 : x.kind = 7
   ·obtain ⟨a1, a2, a3⟩ := hx h7
    rw [if_pos (eqT h7), if_pos h7, if_pos (decide_eq_true a1), if_pos (decide_eq_true a2), if_pos (decide_eq_true a3)]
   ·rw [if_neg (eqF h7), if_neg h7]
theorem nZ {js : List Int} {k : Nat} (hk : k < js.length) (q : Int → Bool) : (js.drop k).all q = (q js[k] && (js.drop (k + 1)).all q) := by
 rw [List.drop_eq_getElem_cons hk, List.all_cons]
theorem BQ (p : ac) (l : List ad) (u : List W32) (fm : W32) (f : Nat) (hf : f < l.length) (x : aa) (h : W32) (hx : x.kind = 7 → 0 ≤ x.arg ∧ x.arg < u.length ∧ x.arg < l.length) (js : List Int) (hjl : js.length ≤ 2) (hj : ∀ y ∈ js, 0 ≤ y ∧ y < ((List.getD l f ae).held.length : Int)) :
  ∀ (m k : Nat), k + m = js.length → aQ js p.globals p.locks p.slots p.funcs l u fm x.kind x.arg x.next x.alt (f : Int) h (js.length : Int) (k : Int) = some (if (js.drop k).all (fun y => dR (hld l f y.toNat) (bhd u l x h)) = true then .x1 else .x0 3)
 | 0, k, hk => by
  rw [aQ, iN (by omega), List.drop_eq_nil_of_le (by omega)]
  rfl
 | m + 1, k, hk => by
  have hlt : k < js.length := by omega
  have hg : List.getD js k 0 = js[k] := by simp [List.getD, hlt]
  have hr := hj _ (List.getElem_mem hlt)
  have eb : dl (br.mk (ac.mk p.globals p.locks p.slots p.funcs) l u fm) (aa.mk x.kind x.arg x.next x.alt) h = some (bhd u l x h) := CR ⟨p, l, u, fm⟩ x h hx
  rw [aQ, iP (by omega), iP (by omega), iP (by omega), iP (by omega), iP (by omega), Int.toNat_natCast k, hg, if_pos (decide_eq_true hr.1), Int.toNat_natCast f, if_pos (decide_eq_true hr.2), bind_some eb, bind_some (eM _ _), inc k (by omega), BQ p l u fm f hf x h hx js hjl hj m (k + 1) (by omega), nZ hlt]
  cases hs : dR (List.getD (List.getD l f ae).held js[k].toNat 0#32) (bhd u l x h) with
  | false => rfl
  | true => rfl
def n0 (p : ac) (l : List ad) (u : List W32) (f i : Nat) : Int :=
 if (nde p f i).kind = 7 ∧ dR (sec l (nde p f i).arg.toNat).entry (hld l f i) = false then 5
 else if (nde p f i).kind = 9 ∧ dR (sec l f).exit (hld l f i) = false then 4
 else if (succ (nde p f i)).all (fun y => dR (hld l f y.toNat) (bhd u l (nde p f i) (hld l f i))) = true then 0 else 3
theorem E3 {p : ac} {l : List ad} {u : List W32} {f i : Nat} (h : (nde p f i).kind = 7) (h2 : ¬ dR (sec l (nde p f i).arg.toNat).entry (hld l f i) = true) : n0 p l u f i = 5 := if_pos ⟨h, by simpa using h2⟩
theorem E4 {p : ac} {l : List ad} {u : List W32} {f i : Nat} (h : (nde p f i).kind = 9) (h2 : ¬ dR (sec l f).exit (hld l f i) = true) : n0 p l u f i = 4 := by
 unfold n0
 rw [if_neg (by rintro ⟨h3, _⟩; exact absurd (h.symm.trans h3) (by decide)), if_pos ⟨h, by simpa using h2⟩]
theorem ti {p : ac} {l : List ad} {u : List W32} {f i : Nat} (h : (nde p f i).kind = 7 → dR (sec l (nde p f i).arg.toNat).entry (hld l f i) = true) (h2 : (nde p f i).kind = 9 → dR (sec l f).exit (hld l f i) = true) : n0 p l u f i = if (succ (nde p f i)).all (fun y => dR (hld l f y.toNat) (bhd u l (nde p f i) (hld l f i))) = true then 0 else 3 := by
 unfold n0
 rw [if_neg (by rintro ⟨h3, h4⟩; rw [h h3] at h4; cases h4), if_neg (by rintro ⟨h3, h4⟩; rw [h2 h3] at h4; cases h4)]
theorem CS (p : ac) (hg : bw p) (l : List ad) (hs : Shp p l) (u : List W32) (hu : u.length = p.funcs.length) (fm : W32) (f i : Nat) (hf : f < p.funcs.length) (hi : i < (List.getD p.funcs f []).length) : dX ⟨p, l, u, fm⟩ (f : Int) (i : Int) = some (n0 p l u f i) := by
 have hl := hs.1
 have hh : (List.getD l f ae).held.length = (List.getD p.funcs f []).length := (hs.2 f hf).1
 have hok := hg.node f i hf hi
 have hc := hok.call
 have hcn : (nde p f i).kind = 7 → 0 ≤ (nde p f i).arg ∧ (nde p f i).arg < p.funcs.length := hok.call
 have hle := hg.le f
 have hjr := j5 hok (by omega)
 have h7 := BQ p l u fm f (by omega) (nde p f i) (hld l f i) (fun hk => by have := hcn hk; omega) (succ (nde p f i)) (mh _) (fun y hy => by have := hjr y hy; omega) (succ (nde p f i)).length 0 (by omega)
 rw [show ((0 : Nat) : Int) = 0 from rfl, List.drop_zero] at h7
 unfold dX
 dsimp only
 rw [iP (by omega), iP (by omega), iP (by omega), Int.toNat_natCast f, iP (by omega), iP (by omega), iP (by omega), Int.toNat_natCast i]
 by_cases hk7 : (List.getD (List.getD p.funcs f []) i ab).kind = 7
 ·have ha := hc hk7
  rw [if_pos (eqT hk7), if_pos (decide_eq_true ha.1), iP (by omega), bind_some (eM _ _)]
  by_cases he : dR (List.getD l (List.getD (List.getD p.funcs f []) i ab).arg.toNat ae).entry (List.getD (List.getD l f ae).held i 0#32) = true
  ·rw [he, if_neg (by decide), if_neg (eqF (by omega)), bind_some (fQ _), bind_some h7, ti (fun _ => he) (fun h => absurd (hk7.symm.trans h) (by decide))]
   by_cases ha : (succ (nde p f i)).all (fun y => dR (hld l f y.toNat) (bhd u l (nde p f i) (hld l f i))) = true
   ·rw [if_pos ha, if_pos ha]
   ·rw [if_neg ha, if_neg ha]
  ·rw [if_pos (by simpa using he), E3 hk7 he]
 ·rw [if_neg (eqF hk7)]
  by_cases hk9 : (List.getD (List.getD p.funcs f []) i ab).kind = 9
  ·rw [if_pos (eqT hk9), bind_some (eM _ _)]
   by_cases he : dR (List.getD l f ae).exit (List.getD (List.getD l f ae).held i 0#32) = true
   ·rw [he, if_neg (by decide), bind_some (fQ _), bind_some h7, ti (fun h => absurd h hk7) (fun _ => he)]
    by_cases ha : (succ (nde p f i)).all (fun y => dR (hld l f y.toNat) (bhd u l (nde p f i) (hld l f i))) = true
    ·rw [if_pos ha, if_pos ha]
    ·rw [if_neg ha, if_neg ha]
   ·rw [if_pos (by simpa using he), E4 hk9 he]
  ·rw [if_neg (eqF hk9), bind_some (fQ _), bind_some h7, ti (fun h => absurd h hk7) (fun h => absurd h hk9)]
   by_cases ha : (succ (nde p f i)).all (fun y => dR (hld l f y.toNat) (bhd u l (nde p f i) (hld l f i))) = true
   ·rw [if_pos ha, if_pos ha]
   ·rw [if_neg ha, if_neg ha]
def uJ (p : ac) (l : List ad) (u : List W32) (f i : Nat) : Option Int := if n0 p l u f i = 0 then none else some (n0 p l u f i)
theorem BR (p : ac) (hg : bw p) (l : List ad) (hs : Shp p l) (u : List W32) (hu : u.length = p.funcs.length) (fm : W32) (f : Nat) (hf : f < p.funcs.length) : ∀ (m i : Nat), i + m = (List.getD p.funcs f []).length → aR p.globals p.locks p.slots p.funcs l u fm (f : Int) ((List.getD p.funcs f []).length : Int) (i : Int) = some (match b6 (uJ p l u f) i m with | some (k, w) => .x0 k w | none => .x1)
 | 0, i, h => by rw [aR, iN (by omega)]; rfl
 | m + 1, i, h => by
  have hle := hg.le f
  have e := CS p hg l hs u hu fm f i hf (by omega)
  rw [aR, iP (by omega), bind_some (show dX (br.mk (ac.mk p.globals p.locks p.slots p.funcs) l u fm) (f : Int) (i : Int) = _ from e), inc i (by omega), BR p hg l hs u hu fm f hf m (i + 1) (by omega), eK]
  unfold uJ
  by_cases h0 : n0 p l u f i = 0
  ·rw [if_neg (neF h0), if_pos h0]
  ·rw [if_pos (neT h0), if_neg h0]
def pX (p : ac) (l : List ad) (u : List W32) (fm : W32) (f : Nat) : Int × Int :=
 if fm.getLsbD f = true ∧ (sec l f).entry ≠ 0#32 then (-1, 2) else if dR (hld l f 0) (sec l f).entry = false then (-1, 3)
 else match b6 (uJ p l u f) 0 (List.getD p.funcs f []).length with | some (k, w) => (k, w) | none => (0, 0)
theorem E5 {p : ac} {l : List ad} {u : List W32} {fm : W32} {f : Nat} (h : fm.getLsbD f = true ∧ (sec l f).entry ≠ 0#32) : pX p l u fm f = (-1, 2) := if_pos h
theorem BS {p : ac} {l : List ad} {u : List W32} {fm : W32} {f : Nat} (h : ¬ (fm.getLsbD f = true ∧ (sec l f).entry ≠ 0#32)) (h2 : ¬ dR (hld l f 0) (sec l f).entry = true) : pX p l u fm f = (-1, 3) := by
 unfold pX
 rw [if_neg h, if_pos (by simpa using h2)]
theorem xY {p : ac} {l : List ad} {u : List W32} {fm : W32} {f : Nat} (h : ¬ (fm.getLsbD f = true ∧ (sec l f).entry ≠ 0#32)) (h2 : dR (hld l f 0) (sec l f).entry = true) : pX p l u fm f = match b6 (uJ p l u f) 0 (List.getD p.funcs f []).length with | some (k, w) => (k, w) | none => (0, 0) := by
 unfold pX
 rw [if_neg h, if_neg (by rw [h2]; decide)]
theorem CT (p : ac) (hg : bw p) (l : List ad) (hs : Shp p l) (u : List W32) (hu : u.length = p.funcs.length) (fm : W32) (f : Nat) (hf : f < p.funcs.length) : cE ⟨p, l, u, fm⟩ (f : Int) = some (pX p l u fm f) := by
 have hl := hs.1
 have hn := hg.funcs.2
 have hh : (List.getD l f ae).held.length = (List.getD p.funcs f []).length := (hs.2 f hf).1
 have hp := (hg.len f hf).1
 have h7 := BR p hg l hs u hu fm f hf (List.getD p.funcs f []).length 0 (by omega)
 rw [show ((0 : Nat) : Int) = 0 from rfl] at h7
 unfold cE
 dsimp only
 rw [iP (by omega), iP (by omega), bind_some (show bT fm (f : Int) = some (fm.getLsbD f) by rw [oN, if_pos (by omega), Int.toNat_natCast]), Int.toNat_natCast f]
 by_cases hfm : fm.getLsbD f = true
 ·rw [if_pos hfm]
  by_cases he : (List.getD l f ae).entry = 0#32
  ·rw [if_neg (by simpa using he), iP (by omega), bind_some (eM _ _)]
   by_cases hsb : dR (List.getD (List.getD l f ae).held 0 0#32) (List.getD l f ae).entry = true
   ·rw [if_neg (by rw [hsb]; decide), iP (by omega), bind_some h7, xY (fun h => h.2 he) hsb]
    cases b6 (uJ p l u f) 0 (List.getD p.funcs f []).length with
    | some x => rfl
    | none => rfl
   ·rw [if_pos (by simpa using hsb), BS (fun h => h.2 he) hsb]
  ·rw [if_pos (by simpa using he), E5 ⟨hfm, he⟩]
 ·rw [if_neg hfm, iP (by omega), bind_some (eM _ _)]
  by_cases hsb : dR (List.getD (List.getD l f ae).held 0 0#32) (List.getD l f ae).entry = true
  ·rw [if_neg (by rw [hsb]; decide), iP (by omega), bind_some h7, xY (fun h => hfm h.1) hsb]
   cases b6 (uJ p l u f) 0 (List.getD p.funcs f []).length with
   | some x => rfl
   | none => rfl
  ·rw [if_pos (by simpa using hsb), BS (fun h => hfm h.1) hsb]
def zG (p : ac) (l : List ad) (u : List W32) (fm : W32) (f : Nat) : Option (Int × Int) := if (pX p l u fm f).2 = 0 then none else some (pX p l u fm f)
theorem BT (p : ac) (hg : bw p) (l : List ad) (hs : Shp p l) (u : List W32) (hu : u.length = p.funcs.length) (fm : W32) : ∀ (m f : Nat), f + m = l.length → d6 u 0 0 0 p.globals p.locks p.slots p.funcs l fm (l.length : Int) (f : Int) = some (match b6 (zG p l u fm) f m with | some (f, (k, w)) => .x0 f k w 0 | none => .x1)
 | 0, f, h => by rw [d6, iN (by omega)]; rfl
 | m + 1, f, h => by
  have hl := hs.1
  have hn := hg.funcs.2
  have e := CT p hg l hs u hu fm f (by omega)
  rw [d6, iP (by omega), bind_some (show cE (br.mk (ac.mk p.globals p.locks p.slots p.funcs) l u fm) (f : Int) = _ from e), inc f (by omega), BT p hg l hs u hu fm m (f + 1) (by omega), eK]
  unfold zG
  by_cases h0 : (pX p l u fm f).2 = 0
  ·rw [if_neg (neF h0), if_pos h0]
  ·rw [if_pos (neT h0), if_neg h0]
def xZ (p : ac) (l : List ad) (u : List W32) (fm : W32) : ax := match b6 (zG p l u fm) 0 l.length with | some (f, (k, w)) => ⟨f, k, w⟩ | none => ⟨0, 0, 0⟩
structure GK (p : ac) (u : List W32) (fm : W32) : Prop where
 ul : u.length = p.funcs.length
 ub : ∀ f, f < p.funcs.length → ∀ b, (List.getD u f 0#32).getLsbD b = true ↔ May p.funcs ofU f b
 fb : ∀ f, f < p.funcs.length → (fm.getLsbD f = true ↔ f = 0 ∨ xh p.funcs f)
theorem CU (p : ac) (hg : bw p) (hk : ay p = some (0, 0, 0)) : ∃ u fm, GK p u fm ∧ (∀ l, Shp p l → dE p l = some (xZ p l u fm, 0)) ∧ ∀ l, ¬ Shp p l → dE p l = some (⟨-1, -1, 1⟩, 0) := by
 have hn := hg.funcs.2
 obtain ⟨u, u1, u2, u3⟩ := AI p hg hk
 obtain ⟨x, x1, x2⟩ := zF p hg
 refine ⟨u, x ||| one 0, ⟨u2, u3, fun f hf => ?_⟩, fun l hs => ?_, fun l hs => ?_⟩
 ·rw [BitVec.getLsbD_or, Bool.or_eq_true, jZ, x2 f (by omega)]
  constructor
  ·rintro (h | ⟨h, _⟩)
   ·exact .inr h
   ·exact .inl (by omega)
  ·rintro (h | h)
   ·exact .inr ⟨by omega, by omega⟩
   ·exact .inl h
 ·obtain ⟨b, b1, _, b2⟩ := jg p l (by omega)
  have hb := b2.2 hs
  have h8 := BT p hg l hs u u2 (x ||| one 0) l.length 0 (by omega)
  rw [show ((0 : Nat) : Int) = 0 from rfl] at h8
  unfold dE
  rw [bind_some u1, if_neg (show ¬ ((0 : Int) != 0) = true by decide), bind_some b1, hb, if_neg (by decide), bind_some x1, bind_some (fc 0), bind_some h8]
  unfold xZ
  cases b6 (zG p l u (x ||| one 0)) 0 l.length with
  | some y => rfl
  | none => rfl
 ·obtain ⟨b, b1, _, b2⟩ := jg p l (by omega)
  have hb : b = false := by
   cases b with
   | false => rfl
   | true => exact absurd (b2.1 rfl) hs
  unfold dE
  rw [bind_some u1, if_neg (show ¬ ((0 : Int) != 0) = true by decide), bind_some b1, hb, if_pos (by decide)]
theorem jh {β : Type} {q : Nat → Option β} : ∀ {m i : Nat}, (∀ k, i ≤ k → k < i + m → q k = none) → b6 q i m = none
 | 0, i, h => rfl
 | m + 1, i, h => by
  rw [eK, h i (Nat.le_refl _) (by omega)]
  exact jh fun k h1 h2 => h k (by omega) (by omega)
def GL (p : ac) (l : List ad) (u : List W32) (fm : W32) : Prop := ∀ f, f < p.funcs.length → ¬ (fm.getLsbD f = true ∧ (sec l f).entry ≠ 0#32) ∧ dR (hld l f 0) (sec l f).entry = true ∧ ∀ i, i < (List.getD p.funcs f []).length → n0 p l u f i = 0
theorem E6 {p : ac} {l : List ad} {u : List W32} {fm : W32} (hl : l.length = p.funcs.length) (h : GL p l u fm) : xZ p l u fm = ⟨0, 0, 0⟩ := by
 unfold xZ
 rw [jh]
 intro f _ hf
 obtain ⟨h1, h2, h3⟩ := h f (by omega)
 have : b6 (uJ p l u f) 0 (List.getD p.funcs f []).length = none := jh fun i _ hi => if_pos (h3 i (by omega))
 unfold zG
 rw [xY h1 h2, this]
 rfl
theorem ru (a : W32) : dR 0#32 a = true := jr.2 fun i h => by simp at h
abbrev liv (l : List ad) (f i : Nat) : W32 := List.getD (sec l f).live i 0#32
def i6 (m : W32) (id : Int) : Bool := if 0 ≤ id ∧ id < 32 then m.getLsbD id.toNat else false
theorem DR (m : W32) {k : Nat} (hk : k < 32) : i6 m (k : Int) = m.getLsbD k := by
 unfold i6
 rw [if_pos (by omega), Int.toNat_natCast]
def lbh (x : aa) (live exit : W32) (lost : Int) (bg : Bool) : W32 :=
 if x.kind = 5 then (live ||| one x.alt) ||| (if bg = true ∨ i6 live x.alt = true then one lost else 0#32)
 else if x.kind = 6 then live &&& ~~~(one x.arg) else if x.kind = 7 then exit else live
theorem vR (x : aa) (live exit : W32) (lost : Int) (bg : Bool) : jn x live exit lost bg = some (lbh x live exit lost bg) := by
 unfold jn lbh
 by_cases h5 : x.kind = 5
 ·rw [if_pos (eqT h5), if_pos h5, bind_some (fc _)]
  by_cases hb : bg = true
  ·rw [if_pos hb, if_pos (.inl hb), bind_some (fc _)]
  ·rw [if_neg hb, bind_some (show bT live x.alt = some (i6 live x.alt) from oN _ _)]
   by_cases hh : i6 live x.alt = true
   ·rw [if_pos hh, if_pos (.inr hh), bind_some (fc _)]
   ·rw [if_neg hh, if_neg (fun h => h.elim hb hh), BitVec.or_zero]
 ·rw [if_neg (eqF h5), if_neg h5]
  by_cases h6 : x.kind = 6
  ·rw [if_pos (eqT h6), if_pos h6, bind_some (fc _)]
  ·rw [if_neg (eqF h6), if_neg h6]
   by_cases h7 : x.kind = 7
   ·rw [if_pos (eqT h7), if_pos h7]
   ·rw [if_neg (eqF h7), if_neg h7]
theorem BU (p : ac) (l : List ad) (bg : W32) (f : Nat) (hf : f < l.length) (x : aa) (h e : W32) (js : List Int) (hjl : js.length ≤ 2) (hj : ∀ y ∈ js, 0 ≤ y ∧ y < ((List.getD l f ae).live.length : Int)) :
  ∀ (m k : Nat), k + m = js.length → aM js p.globals p.locks p.slots p.funcs l bg x.kind x.arg x.next x.alt (f : Int) h e (js.length : Int) (k : Int) = some (if (js.drop k).all (fun y => dR (lbh x h e p.slots (i6 bg x.arg)) (liv l f y.toNat)) = true then .x1 else .x0 6)
 | 0, k, hk => by
  rw [aM, iN (by omega), List.drop_eq_nil_of_le (by omega)]
  rfl
 | m + 1, k, hk => by
  have hlt : k < js.length := by omega
  have hg : List.getD js k 0 = js[k] := by simp [List.getD, hlt]
  have hr := hj _ (List.getElem_mem hlt)
  rw [aM, iP (by omega), iP (by omega), iP (by omega), bind_some (show lQ (ac.mk p.globals p.locks p.slots p.funcs) = some p.slots from rfl), bind_some (show bT bg x.arg = some (i6 bg x.arg) from oN _ _), bind_some (show jn (aa.mk x.kind x.arg x.next x.alt) h e p.slots (i6 bg x.arg) = some (lbh x h e p.slots (i6 bg x.arg)) from vR x h e p.slots (i6 bg x.arg)), iP (by omega), iP (by omega), Int.toNat_natCast k, hg, if_pos (decide_eq_true hr.1), Int.toNat_natCast f, if_pos (decide_eq_true hr.2), bind_some (eM _ _), inc k (by omega), BU p l bg f hf x h e js hjl hj m (k + 1) (by omega), nZ hlt]
  cases hs : dR (lbh x h e p.slots (i6 bg x.arg)) (List.getD (List.getD l f ae).live js[k].toNat 0#32) with
  | false => rfl
  | true => rfl
def xit (l : List ad) (x : aa) : W32 := if x.kind = 7 then (List.getD l x.arg.toNat ae).liveExit else 0#32
def onL (p : ac) (l : List ad) (bg : W32) (f i : Nat) : Bool := (succ (nde p f i)).all fun y => dR (lbh (nde p f i) (liv l f i) (xit l (nde p f i)) p.slots (i6 bg (nde p f i).arg)) (liv l f y.toNat)
def lx (p : ac) (l : List ad) (bg : W32) (f i : Nat) : Int :=
 if (nde p f i).kind = 7 ∧ dR (liv l f i) (sec l (nde p f i).arg.toNat).liveEntry = false then 6
 else if (nde p f i).kind = 9 ∧ dR (liv l f i) (sec l f).liveExit = false then 6
 else if (nde p f i).kind = 5 ∧ i6 (sec l (nde p f i).arg.toNat).liveEntry p.slots = false then 7
 else if onL p l bg f i = true then 0 else 6
theorem ya {p : ac} {l : List ad} {bg : W32} {f i : Nat} {e : W32} (hx : xit l (nde p f i) = e) : ((succ (nde p f i)).all fun y => dR (lbh (nde p f i) (liv l f i) e p.slots (i6 bg (nde p f i).arg)) (liv l f y.toNat)) = onL p l bg f i := by subst hx; rfl
theorem E7 {p : ac} {l : List ad} {bg : W32} {f i : Nat} (h : (nde p f i).kind = 7) (h2 : ¬ dR (liv l f i) (sec l (nde p f i).arg.toNat).liveEntry = true) : lx p l bg f i = 6 := if_pos ⟨h, by simpa using h2⟩
theorem E8 {p : ac} {l : List ad} {bg : W32} {f i : Nat} (h : (nde p f i).kind = 9) (h2 : ¬ dR (liv l f i) (sec l f).liveExit = true) : lx p l bg f i = 6 := by
 unfold lx
 rw [if_neg (by rintro ⟨h3, _⟩; exact absurd (h.symm.trans h3) (by decide)), if_pos ⟨h, by simpa using h2⟩]
theorem E9 {p : ac} {l : List ad} {bg : W32} {f i : Nat} (h : (nde p f i).kind = 5) (h2 : ¬ i6 (sec l (nde p f i).arg.toNat).liveEntry p.slots = true) : lx p l bg f i = 7 := by
 unfold lx
 rw [if_neg (by rintro ⟨h3, _⟩; exact absurd (h.symm.trans h3) (by decide)), if_neg (by rintro ⟨h3, _⟩; exact absurd (h.symm.trans h3) (by decide)), if_pos ⟨h, by simpa using h2⟩]
theorem pY {p : ac} {l : List ad} {bg : W32} {f i : Nat} (h7 : (nde p f i).kind = 7 → dR (liv l f i) (sec l (nde p f i).arg.toNat).liveEntry = true) (h9 : (nde p f i).kind = 9 → dR (liv l f i) (sec l f).liveExit = true) (h5 : (nde p f i).kind = 5 → i6 (sec l (nde p f i).arg.toNat).liveEntry p.slots = true) : lx p l bg f i = if onL p l bg f i = true then 0 else 6 := by
 unfold lx
 rw [if_neg (by rintro ⟨h3, h4⟩; rw [h7 h3] at h4; cases h4), if_neg (by rintro ⟨h3, h4⟩; rw [h9 h3] at h4; cases h4), if_neg (by rintro ⟨h3, h4⟩; rw [h5 h3] at h4; cases h4)]
theorem DS (p : ac) (hg : bw p) (l : List ad) (hs : Shp p l) (bg : W32) (f i : Nat) (hf : f < p.funcs.length) (hi : i < (List.getD p.funcs f []).length) : eA ⟨p, l, bg⟩ (f : Int) (i : Int) = some (lx p l bg f i) := by
 have hl := hs.1
 have hh : (List.getD l f ae).live.length = (List.getD p.funcs f []).length := (hs.2 f hf).2
 have hok := hg.node f i hf hi
 have hc := hok.call
 have hsp := hok.spawn
 have hle := hg.le f
 have hjr := j5 hok (by omega)
 have h15 : ∀ e, aM (succ (nde p f i)) p.globals p.locks p.slots p.funcs l bg (nde p f i).kind (nde p f i).arg (nde p f i).next (nde p f i).alt (f : Int) (liv l f i) e ((succ (nde p f i)).length : Int) 0 = some (if (succ (nde p f i)).all (fun y => dR (lbh (nde p f i) (liv l f i) e p.slots (i6 bg (nde p f i).arg)) (liv l f y.toNat)) = true then .x1 else .x0 6) := fun e => by
  have := BU p l bg f (by omega) (nde p f i) (liv l f i) e (succ (nde p f i)) (mh _) (fun y hy => by have := hjr y hy; omega) (succ (nde p f i)).length 0 (by omega)
  rw [show ((0 : Nat) : Int) = 0 from rfl, List.drop_zero] at this
  exact this
 unfold eA
 dsimp only
 rw [iP (by omega), iP (by omega), iP (by omega), Int.toNat_natCast f, iP (by omega), iP (by omega), iP (by omega), Int.toNat_natCast i]
 by_cases hk7 : (List.getD (List.getD p.funcs f []) i ab).kind = 7
 ·have ha := hc hk7
  have hx : xit l (nde p f i) = (List.getD l (List.getD (List.getD p.funcs f []) i ab).arg.toNat ae).liveExit := if_pos hk7
  rw [if_pos (eqT hk7), if_pos (decide_eq_true ha.1), iP (by omega), bind_some (eM _ _)]
  by_cases he : dR (List.getD (List.getD l f ae).live i 0#32) (List.getD l (List.getD (List.getD p.funcs f []) i ab).arg.toNat ae).liveEntry = true
  ·rw [he, if_neg (by decide), bind_some (fQ _), bind_some (h15 _), pY (fun _ => he) (fun h => absurd (hk7.symm.trans h) (by decide)) (fun h => absurd (hk7.symm.trans h) (by decide)), ya hx]
   by_cases ho : onL p l bg f i = true
   ·rw [if_pos ho, if_pos ho]
   ·rw [if_neg ho, if_neg ho]
  ·rw [if_pos (by simpa using he), E7 hk7 he]
 ·have hx : xit l (nde p f i) = 0#32 := if_neg hk7
  rw [if_neg (eqF hk7)]
  by_cases hk9 : (List.getD (List.getD p.funcs f []) i ab).kind = 9
  ·rw [if_pos (eqT hk9), bind_some (eM _ _)]
   by_cases he : dR (List.getD (List.getD l f ae).live i 0#32) (List.getD l f ae).liveExit = true
   ·rw [he, if_neg (by decide), bind_some (fQ _), bind_some (h15 _), pY (fun h => absurd h hk7) (fun _ => he) (fun h => absurd (hk9.symm.trans h) (by decide)), ya hx]
    by_cases ho : onL p l bg f i = true
    ·rw [if_pos ho, if_pos ho]
    ·rw [if_neg ho, if_neg ho]
   ·rw [if_pos (by simpa using he), E8 hk9 he]
  ·rw [if_neg (eqF hk9)]
   by_cases hk5 : (List.getD (List.getD p.funcs f []) i ab).kind = 5
   ·have ha := hsp hk5
    rw [if_pos (eqT hk5), if_pos (decide_eq_true ha.1), iP (by omega), bind_some (show lQ p = some p.slots from rfl), bind_some (show bT _ p.slots = some (i6 _ p.slots) from oN _ _)]
    by_cases he : i6 (List.getD l (List.getD (List.getD p.funcs f []) i ab).arg.toNat ae).liveEntry p.slots = true
    ·rw [he, if_neg (by decide), bind_some (fQ _), bind_some (h15 _), pY (fun h => absurd h hk7) (fun h => absurd h hk9) (fun _ => he), ya hx]
     by_cases ho : onL p l bg f i = true
     ·rw [if_pos ho, if_pos ho]
     ·rw [if_neg ho, if_neg ho]
    ·rw [if_pos (by simpa using he), E9 hk5 he]
   ·rw [if_neg (eqF hk5), bind_some (fQ _), bind_some (h15 _), pY (fun h => absurd h hk7) (fun h => absurd h hk9) (fun h => absurd h hk5), ya hx]
    by_cases ho : onL p l bg f i = true
    ·rw [if_pos ho, if_pos ho]
    ·rw [if_neg ho, if_neg ho]
def rv (p : ac) (l : List ad) (bg : W32) (f i : Nat) : Option Int := if lx p l bg f i = 0 then none else some (lx p l bg f i)
def m13 : Option (Nat × Int) → dd
 | some (k, w) => .x0 k w 0
 | none => .x1
theorem BV (p : ac) (hg : bw p) (l : List ad) (hs : Shp p l) (bg : W32) (f : Nat) (hf : f < p.funcs.length) (x4 x5 x6 : Int) (x14 : List ad) (x15 x16 : Int) : ∀ (m i : Nat), i + m = (List.getD p.funcs f []).length → d7 p.globals p.locks p.slots p.funcs x4 x5 x6 p.globals p.locks p.slots p.funcs l bg (f : Int) x14 x15 x16 ((List.getD p.funcs f []).length : Int) (i : Int) = some (m13 (b6 (rv p l bg f) i m))
 | 0, i, h => by rw [d7, iN (by omega)]; rfl
 | m + 1, i, h => by
  have hle := hg.le f
  have e := DS p hg l hs bg f i hf (by omega)
  rw [d7, iP (by omega), bind_some (show eA (ik.mk (ac.mk p.globals p.locks p.slots p.funcs) l bg) (f : Int) (i : Int) = _ from e), inc i (by omega), BV p hg l hs bg f hf x4 x5 x6 x14 x15 x16 m (i + 1) (by omega), eK]
  unfold rv
  by_cases h0 : lx p l bg f i = 0
  ·rw [if_neg (neF h0), if_pos h0]
  ·rw [if_pos (neT h0), if_neg h0]
   rfl
def rx (p : ac) (l : List ad) (bg : W32) (f : Nat) : Option (Int × Int) :=
 if dR (sec l f).liveEntry (liv l f 0) = false then some (-1, 6) else (b6 (rv p l bg f) 0 (List.getD p.funcs f []).length).map fun x => ((x.1 : Int), x.2)
def m8 : Option (Nat × (Int × Int)) → dF
 | some (f, (k, w)) => .x0 f k w 0
 | none => .x1
theorem DT (p : ac) (hg : bw p) (l : List ad) (hs : Shp p l) (bg : W32) : ∀ (m f : Nat), f + m = l.length → eI p.globals p.locks p.slots p.funcs 0 0 0 p.globals p.locks p.slots p.funcs l bg l (l.length : Int) (f : Int) = some (m8 (b6 (rx p l bg) f m))
 | 0, f, h => by rw [eI, iN (by omega)]; rfl
 | m + 1, f, h => by
  have hl := hs.1
  have hn := hg.funcs.2
  have hh : (List.getD l f ae).live.length = (List.getD p.funcs f []).length := (hs.2 f (by omega)).2
  have hp := (hg.len f (by omega)).1
  have h13 := BV p hg l hs bg f (by omega) 0 0 0 l (l.length : Int) (f : Int) (List.getD p.funcs f []).length 0 (by omega)
  rw [show ((0 : Nat) : Int) = 0 from rfl] at h13
  rw [eI, iP (by omega), iP (by omega), iP (by omega), Int.toNat_natCast f, iP (by omega), bind_some (eM _ _), inc f (by omega), DT p hg l hs bg m (f + 1) (by omega), eK]
  by_cases hsb : dR (List.getD l f ae).liveEntry (List.getD (List.getD l f ae).live 0 0#32) = true
  ·have hO : rx p l bg f = (b6 (rv p l bg f) 0 (List.getD p.funcs f []).length).map fun x => ((x.1 : Int), x.2) := if_neg (by intro h; exact absurd (hsb.symm.trans h) (by decide))
   rw [hsb, if_neg (by decide), iP (by omega), bind_some h13, hO]
   cases b6 (rv p l bg f) 0 (List.getD p.funcs f []).length with
   | none => rfl
   | some z => rfl
  ·have hO : rx p l bg f = some (-1, 6) := if_pos (by simpa using hsb)
   rw [if_pos (by simpa using hsb), hO] <;> rfl
def yb (p : ac) (l : List ad) (bg : W32) : ax := match b6 (rx p l bg) 0 l.length with | some (f, (k, w)) => ⟨f, k, w⟩ | none => ⟨0, 0, 0⟩
def GM (p : ac) (bg : W32) : Prop := ∀ b, bg.getLsbD b = true ↔ b < p.funcs.length ∧ rt p.funcs b
theorem DU (p : ac) (hg : bw p) (hk : ay p = some (0, 0, 0)) : ∃ bg, GM p bg ∧ (∀ l, Shp p l → dT p l = some (yb p l bg, 0)) ∧ ∀ l, ¬ Shp p l → dT p l = some (⟨-1, -1, 1⟩, 0) := by
 have hn := hg.funcs.2
 obtain ⟨bg, u1, u2⟩ := xg p hg hk
 refine ⟨bg, u2, fun l hs => ?_, fun l hs => ?_⟩
 ·obtain ⟨b, b1, _, b2⟩ := jg p l (by omega)
  have hb := b2.2 hs
  have h8 := DT p hg l hs bg l.length 0 (by omega)
  rw [show ((0 : Nat) : Int) = 0 from rfl] at h8
  unfold dT
  rw [bind_some u1, if_neg (show ¬ ((0 : Int) != 0) = true by decide), bind_some b1, hb, if_neg (by decide), bind_some h8]
  unfold yb
  cases b6 (rx p l bg) 0 l.length with
  | some y => rfl
  | none => rfl
 ·obtain ⟨b, b1, _, b2⟩ := jg p l (by omega)
  have hb : b = false := by
   cases b with
   | false => rfl
   | true => exact absurd (b2.1 rfl) hs
  unfold dT
  rw [bind_some u1, if_neg (show ¬ ((0 : Int) != 0) = true by decide), bind_some b1, hb, if_pos (by decide)]
def Fz (p : ac) (l : List ad) (bg : W32) : Prop := ∀ f, f < p.funcs.length → dR (sec l f).liveEntry (liv l f 0) = true ∧ ∀ i, i < (List.getD p.funcs f []).length → lx p l bg f i = 0
theorem DV {p : ac} {l : List ad} {bg : W32} (hl : l.length = p.funcs.length) (h : Fz p l bg) : yb p l bg = ⟨0, 0, 0⟩ := by
 unfold yb
 rw [jh]
 intro f _ hf
 obtain ⟨h2, h3⟩ := h f (by omega)
 have : b6 (rv p l bg f) 0 (List.getD p.funcs f []).length = none := jh fun i _ hi => if_pos (h3 i (by omega))
 unfold rx
 rw [if_neg (by rw [h2]; decide), this]
 rfl
def Low (x : W32) (k : Nat) : Prop := k < 32 ∧ x.getLsbD k = true ∧ ∀ j, j < k → ¬ x.getLsbD j = true
theorem uK (x : W32) : ∀ (m i : Nat), (∀ j, j < i → ¬ x.getLsbD j = true) → i + m = 32 → (∃ k, Low x k) ∨ ∀ j, j < 32 → ¬ x.getLsbD j = true
 | 0, i, h, e => .inr fun j hj => h j (by omega)
 | m + 1, i, h, e => by
  by_cases c : x.getLsbD i = true
  ·exact .inl ⟨i, by omega, c, h⟩
  ·exact uK x m (i + 1) (fun j hj => by
    rcases Nat.lt_or_ge j i with h1 | h1
    ·exact h j h1
    ·rw [show j = i by omega]; exact c) (by omega)
theorem AJ {x : W32} (h : x ≠ 0#32) : ∃ k, Low x k := by
 rcases uK x 32 0 (fun j hj => by omega) rfl with h1 | h1
 ·exact h1
 ·refine absurd (BitVec.eq_of_getLsbD_eq fun i hi => ?_) h
  have h2 := h1 i hi
  rw [Bool.not_eq_true] at h2
  rw [h2]
  simp
theorem xj {x : W32} {k : Nat} (h : Low x k) (i : Nat) : (∃ j, j < i ∧ x.getLsbD j = true) ↔ k < i := by
 constructor
 ·rintro ⟨j, h1, h2⟩
  rcases Nat.lt_or_ge k i with h3 | h3
  ·exact h3
  ·exact absurd h2 (h.2.2 j (by omega))
 ·exact fun h1 => ⟨k, h1, h.2.1⟩
theorem Fa {x : W32} {k : Nat} (h : Low x k) : x &&& (-x) = BitVec.twoPow 32 k := by
 refine BitVec.eq_of_getLsbD_eq fun i hi => ?_
 rw [BitVec.getLsbD_and, BitVec.getLsbD_neg, BitVec.getLsbD_twoPow]
 have h1 := xj h i
 by_cases c : k < i
 ·have : decide (∃ j, j < i ∧ x.getLsbD j = true) = true := decide_eq_true (h1.2 c)
  rw [this]
  have : decide (k = i) = false := decide_eq_false (by omega)
  rw [this]
  cases x.getLsbD i <;> simp [hi]
 ·have : decide (∃ j, j < i ∧ x.getLsbD j = true) = false := decide_eq_false fun hh => c (h1.1 hh)
  rw [this]
  by_cases e : k = i
  ·subst e
   rw [h.2.1]
   simp [h.1]
  ·have h2 : x.getLsbD i = false := by
    rw [← Bool.not_eq_true]
    exact h.2.2 i (by omega)
   rw [h2]
   simp [e]
theorem nh {x : W32} {k : Nat} (h : Low x k) (i : Nat) : (x &&& (x - 1#32)).getLsbD i = true ↔ x.getLsbD i = true ∧ i ≠ k := by
 rw [← BitVec.not_neg, BitVec.getLsbD_and, BitVec.getLsbD_not, BitVec.getLsbD_neg]
 have h1 := xj h i
 by_cases hi : i < 32
 ·by_cases c : k < i
  ·have : decide (∃ j, j < i ∧ x.getLsbD j = true) = true := decide_eq_true (h1.2 c)
   rw [this]
   have : i ≠ k := by omega
   cases x.getLsbD i <;> simp [hi, this]
  ·have : decide (∃ j, j < i ∧ x.getLsbD j = true) = false := decide_eq_false fun hh => c (h1.1 hh)
   rw [this]
   by_cases e : i = k
   ·subst e
    rw [h.2.1]
    simp
   ·have h2 : x.getLsbD i = false := by
     rw [← Bool.not_eq_true]
     exact h.2.2 i (by omega)
    rw [h2]
    simp
 ·have h2 : x.getLsbD i = false := BitVec.getLsbD_of_ge _ _ (by omega)
  rw [h2]
  simp
theorem AK : ∀ k : Fin 32, (BitVec.toNat (((BitVec.twoPow 32 k.val) * (125613361#32)) >>> (BitVec.toNat (27#64))) < 32) ∧ BitVec.toNat (Cf (BitVec.toNat (((BitVec.twoPow 32 k.val) * (125613361#32)) >>> (BitVec.toNat (27#64))))) = k.val := by decide +kernel
theorem GN {x : W32} {k : Nat} (h : Low x k) : cD x = some (k : Int) := by
 have hx : ¬ (x == 0#32) = true := fun hh => by
  have h2 := h.2.1
  rw [beq_iff_eq.1 hh] at h2
  simp at h2
 obtain ⟨t1, t2⟩ := AK ⟨k, h.1⟩
 simp only [] at t1 t2
 unfold cD
 rw [if_neg hx, Fa h, iP (by omega), Int.toNat_natCast, t2]
theorem xk {x : W32} {k : Nat} (h : Low x k) : jE x = some (k : Int) := by
 have hx : ¬ (x == 0#32) = true := fun hh => by
  have h2 := h.2.1
  rw [beq_iff_eq.1 hh] at h2
  simp at h2
 unfold jE
 rw [if_neg hx, bind_some (GN h)]
theorem BW : ∀ (d : Nat) (x : W32) (t : List Int), x.toNat ≤ d → (∀ i, i < t.length → ¬ x.getLsbD i = true) → t.length ≤ 32 → ∃ o, eP t x = some o ∧ o.length ≤ 32 ∧ ∀ y : Int, y ∈ o ↔ y ∈ t ∨ ∃ b : Nat, y = (b : Int) ∧ x.getLsbD b = true
 | d, x, t, hd, hl, ht => by
  by_cases hz : x = 0#32
  ·rw [eP, if_neg (by simpa using hz)]
   exact ⟨t, rfl, ht, fun y => ⟨.inl, fun h => h.elim id fun ⟨b, _, hb⟩ => by rw [hz] at hb; simp at hb⟩⟩
  ·obtain ⟨k, hk⟩ := AJ hz
   have hkt : t.length ≤ k := by
    rcases Nat.lt_or_ge k t.length with h | h
    ·exact absurd hk.2.1 (hl k h)
    ·exact h
   have hk32 := hk.1
   have hlt : (x &&& (x - 1#32)).toNat < x.toNat := by
    rcases Nat.lt_or_ge (x &&& (x - 1#32)).toNat x.toNat with h | h
    ·exact h
    ·have hle : (x &&& (x - 1#32)).toNat ≤ x.toNat := by rw [BitVec.toNat_and]; exact Nat.and_le_left
     have e : x &&& (x - 1#32) = x := BitVec.eq_of_toNat_eq (by omega)
     have := (nh hk k).1 (by rw [e]; exact hk.2.1)
     exact absurd rfl this.2
   match d, hd with
   | 0, hd => omega
   | d + 1, hd =>
    rw [eP, if_pos (by simpa using hz), bind_some (xk hk), if_pos (Nat.ble_eq_true_of_le (by simp only [List.length_singleton, aF]; omega))]
    obtain ⟨o, o1, o2, o3⟩ := BW d (x &&& (x - 1#32)) (t ++ [(k : Int)]) (by omega) (fun i hi h => by
     rw [List.length_append, List.length_singleton] at hi
     obtain ⟨h1, h2⟩ := (nh hk i).1 h
     exact hk.2.2 i (by omega) h1) (by rw [List.length_append, List.length_singleton]; omega)
    refine ⟨o, o1, o2, fun y => ?_⟩
    rw [o3, List.mem_append, List.mem_singleton]
    constructor
    ·rintro ((h | h) | ⟨b, h1, h2⟩)
     ·exact .inl h
     ·exact .inr ⟨k, h, hk.2.1⟩
     ·exact .inr ⟨b, h1, ((nh hk b).1 h2).1⟩
    ·rintro (h | ⟨b, h1, h2⟩)
     ·exact .inl (.inl h)
     ·by_cases e : b = k
      ·exact .inl (.inr (by rw [h1, e]))
      ·exact .inr ⟨b, h1, (nh hk b).2 ⟨h2, e⟩⟩
theorem Fb (x : W32) : ∃ o, nj x = some o ∧ o.length ≤ 32 ∧ ∀ y : Int, y ∈ o ↔ ∃ b : Nat, y = (b : Int) ∧ x.getLsbD b = true := by
 obtain ⟨o, o1, o2, o3⟩ := BW x.toNat x [] (Nat.le_refl _) (fun i hi => by simp at hi) (by simp)
 unfold nj
 rw [bind_some o1]
 exact ⟨o, rfl, o2, fun y => by rw [o3]; simp⟩
def eo (n : Nat) : W32 := BitVec.setWidth 32 (((1#64) <<< n) - (1#64))
theorem DW : ∀ n : Fin 33, ∀ i : Fin 32, (eo n.val).getLsbD i.val = decide (i.val < n.val) := by decide +kernel
theorem fe {n : Nat} (hn : n ≤ 32) (b : Nat) : (eo n).getLsbD b = true ↔ b < n := by
 by_cases hb : b < 32
 ·rw [DW ⟨n, by omega⟩ ⟨b, hb⟩, decide_eq_true_iff]
 ·rw [BitVec.getLsbD_of_ge _ _ (by omega)]
  constructor
  ·intro h; cases h
  ·intro h; omega
theorem pZ (n : Nat) (hn : n ≤ 32) : fN (n : Int) = some (eo n) := by
 unfold fN
 have h1 : ¬ (32 : Int) < (n : Int) := by omega
 have h2 : ¬ (0 : Int) > (n : Int) := by omega
 simp only [if_neg h1, if_neg h2]
 rw [iP (by omega), Int.toNat_natCast]
 rfl
inductive Rt (C : List W32) : Nat → Nat → Prop
 | refl (a : Nat) : Rt C a a
 | step (a b c : Nat) : b < C.length → (List.getD C a 0#32).getLsbD b = true → Rt C b c → Rt C a c
theorem GO {C : List W32} {m : W32} (h : ∀ a, m.getLsbD a = true → ∀ b, b < C.length → (List.getD C a 0#32).getLsbD b = true → m.getLsbD b = true) {a b : Nat} (hr : Rt C a b) : m.getLsbD a = true → m.getLsbD b = true := by
 induction hr with
 | refl a => exact id
 | step a b c h1 h2 _ ih => exact fun ha => ih (h a ha b h1 h2)
theorem FA {C : List W32} {a b : Nat} (h : Rt C a b) (ha : a < C.length) : b < C.length := by
 induction h with
 | refl a => exact ha
 | step a b d h1 h3 _ ih => exact ih h1
theorem FB (C : List W32) (hC : C.length ≤ 32) (t : List Int) (ht : t.length ≤ 32) (hr : ∀ y ∈ t, 0 ≤ y ∧ y < (C.length : Int)) (x2 : W32) : ∀ (m j : Nat) (x3 : W32), j + m = t.length → ∃ y, dL C t x2 x3 (t.length : Int) (j : Int) = some y ∧ ∀ b, y.getLsbD b = true ↔ x3.getLsbD b = true ∨ ∃ i, j ≤ i ∧ i < t.length ∧ b < C.length ∧ (List.getD C (List.getD t i 0).toNat 0#32).getLsbD b = true
 | 0, j, x3, h => by
  rw [dL, iN (by omega)]
  exact ⟨x3, rfl, fun b => ⟨.inl, fun h => h.elim id fun ⟨i, h1, h2, _⟩ => by omega⟩⟩
 | m + 1, j, x3, h => by
  have hj : j < t.length := by omega
  have hm : List.getD t j 0 ∈ t := by
   rw [show List.getD t j 0 = t[j] by simp [List.getD, hj]]
   exact List.getElem_mem _
  have hb := hr _ hm
  obtain ⟨y, y1, y2⟩ := FB C hC t ht hr x2 m (j + 1) (x3 ||| ((List.getD C (List.getD t j 0).toNat 0#32) &&& eo C.length)) (by omega)
  rw [dL, iP (by omega), iP (by omega), iP (by omega), Int.toNat_natCast, if_pos (decide_eq_true hb.1), if_pos (decide_eq_true hb.2), bind_some (pZ _ hC), inc j (by omega)]
  refine ⟨y, y1, fun b => ?_⟩
  rw [y2, BitVec.getLsbD_or, Bool.or_eq_true, BitVec.getLsbD_and, Bool.and_eq_true, fe hC]
  constructor
  ·rintro ((h1 | ⟨h1, h2⟩) | ⟨i, h1, h2, h3⟩)
   ·exact .inl h1
   ·exact .inr ⟨j, Nat.le_refl _, hj, h2, h1⟩
   ·exact .inr ⟨i, by omega, h2, h3⟩
  ·rintro (h1 | ⟨i, h1, h2, h3, h4⟩)
   ·exact .inl (.inl h1)
   ·rcases Nat.eq_or_lt_of_le h1 with rfl | h5
    ·exact .inl (.inr ⟨h4, h3⟩)
    ·exact .inr ⟨i, h5, h2, h3, h4⟩
theorem zH (C : List W32) (hC : C.length ≤ 32) : ∀ (d : Nat) (m : W32), 2 ^ 32 - m.toNat ≤ d → (∀ b, m.getLsbD b = true → b < C.length) → ∃ R, eD C m = some R ∧ ∀ b, R.getLsbD b = true ↔ ∃ a, m.getLsbD a = true ∧ Rt C a b
 | 0, m, hd, hm => by have := m.isLt; omega
 | d + 1, m, hd, hm => by
  obtain ⟨t, t1, t2, t3⟩ := Fb m
  obtain ⟨y, y1, y2⟩ := FB C hC t t2 (fun y hy => by
   obtain ⟨b, e, hb⟩ := (t3 y).1 hy
   have := hm b hb
   omega) m t.length 0 m (Nat.zero_add _)
  rw [show ((0 : Nat) : Int) = 0 from rfl] at y1
  have y3 : ∀ b, y.getLsbD b = true ↔ m.getLsbD b = true ∨ ∃ a, m.getLsbD a = true ∧ b < C.length ∧ (List.getD C a 0#32).getLsbD b = true := fun b => by
   rw [y2]
   constructor
   ·rintro (h | ⟨i, _, h1, h2, h3⟩)
    ·exact .inl h
    ·have hmem : List.getD t i 0 ∈ t := by
      rw [show List.getD t i 0 = t[i] by simp [List.getD, h1]]
      exact List.getElem_mem _
     obtain ⟨a, e, ha⟩ := (t3 _).1 hmem
     rw [e, Int.toNat_natCast] at h3
     exact .inr ⟨a, ha, h2, h3⟩
   ·rintro (h | ⟨a, h1, h2, h3⟩)
    ·exact .inl h
    ·obtain ⟨i, hi, e⟩ := List.mem_iff_getElem.1 ((t3 (a : Int)).2 ⟨a, rfl, h1⟩)
     refine .inr ⟨i, Nat.zero_le _, hi, h2, ?_⟩
     rw [show List.getD t i 0 = (a : Int) by simp [List.getD, hi, e], Int.toNat_natCast]
     exact h3
  rw [eD, bind_some t1, bind_some y1]
  by_cases he : y = m
  ·rw [if_pos (beq_iff_eq.2 he)]
   refine ⟨m, rfl, fun b => ⟨fun h => ⟨b, h, .refl b⟩, fun ⟨a, ha, hr⟩ => GO (fun a ha b hb hc => ?_) hr ha⟩⟩
   rw [← he]
   exact (y3 b).2 (.inr ⟨a, ha, hb, hc⟩)
  ·rw [if_neg (fun h => he (beq_iff_eq.1 h))]
   have hle : m.toNat ≤ y.toNat := by
    have e : y = m ||| y := BitVec.eq_of_getLsbD_eq fun i hi => by
     rw [BitVec.getLsbD_or]
     cases hmi : m.getLsbD i with
     | false => simp
     | true => rw [(y3 i).2 (.inl hmi)]; rfl
    rw [e, BitVec.toNat_or]
    exact Nat.left_le_or
   have hlt : m.toNat < y.toNat := by
    rcases Nat.lt_or_ge m.toNat y.toNat with h | h
    ·exact h
    ·exact absurd (BitVec.eq_of_toNat_eq (by omega)) he
   have hy := y.isLt
   obtain ⟨R, r1, r2⟩ := zH C hC d y (by omega) fun b hb => by
    rcases (y3 b).1 hb with h | ⟨_, _, h, _⟩
    ·exact hm b h
    ·exact h
   refine ⟨R, r1, fun b => ?_⟩
   rw [r2]
   constructor
   ·rintro ⟨a, ha, hr⟩
    rcases (y3 a).1 ha with h | ⟨a0, h0, h1, h2⟩
    ·exact ⟨a, h, hr⟩
    ·exact ⟨a0, h0, .step _ _ _ h1 h2 hr⟩
   ·rintro ⟨a, ha, hr⟩
    exact ⟨a, (y3 a).2 (.inl ha), hr⟩
theorem xl (p : ac) {C : List W32} (hc : eT p = some C) (hC : C.length ≤ 32) (from_ : W32) : ∃ R, iB p from_ = some R ∧ ∀ b, R.getLsbD b = true ↔ ∃ a, a < C.length ∧ from_.getLsbD a = true ∧ Rt C a b := by
 obtain ⟨R, r1, r2⟩ := zH C hC (2 ^ 32) (from_ &&& eo C.length) (by omega) fun b hb => by
  rw [BitVec.getLsbD_and, Bool.and_eq_true, fe hC] at hb
  exact hb.2
 unfold iB
 rw [bind_some hc, bind_some (pZ _ hC), bind_some r1]
 refine ⟨R, rfl, fun b => ?_⟩
 rw [r2]
 constructor
 ·rintro ⟨a, ha, hr⟩
  rw [BitVec.getLsbD_and, Bool.and_eq_true, fe hC] at ha
  exact ⟨a, ha.2, ha.1, hr⟩
 ·rintro ⟨a, h1, h2, hr⟩
  refine ⟨a, ?_, hr⟩
  rw [BitVec.getLsbD_and, Bool.and_eq_true, fe hC]
  exact ⟨h2, h1⟩
theorem yc {x y : W32} (h : ∀ b, x.getLsbD b = true ↔ y.getLsbD b = true) : x = y := BitVec.eq_of_getLsbD_eq fun i _ => Bool.eq_iff_iff.2 (h i)
def tbh (x : aa) (t : W32) : W32 := if x.kind = 3 then t ||| one x.arg else if x.kind = 4 then t &&& ~~~(one x.arg) else t
def p6 (locks : List W32) (x : aa) (t : W32) : Bool := if x.kind = 3 then (t &&& one x.arg) == 0#32 else if x.kind = 4 then (t &&& one x.arg) != 0#32 else if x.kind = 9 then t == 0#32 else if x.kind = 7 then (if 0 ≤ x.arg ∧ x.arg < locks.length then (t &&& List.getD locks x.arg.toNat 0#32) == 0#32 else false) else true
theorem DX (x : aa) (t : W32) (locks : List W32) : ir x t locks = some (tbh x t, p6 locks x t) := by
 unfold ir tbh p6
 rw [bind_some (fc _)]
 by_cases h3 : x.kind = 3
 ·rw [if_pos (eqT h3), if_pos h3, if_pos h3]
 ·rw [if_neg (eqF h3), if_neg h3, if_neg h3]
  by_cases h4 : x.kind = 4
  ·rw [if_pos (eqT h4), if_pos h4, if_pos h4]
  ·rw [if_neg (eqF h4), if_neg h4, if_neg h4]
   by_cases h9 : x.kind = 9
   ·rw [if_pos (eqT h9), if_pos h9]
   ·rw [if_neg (eqF h9), if_neg h9]
    by_cases h7 : x.kind = 7
    ·rw [if_pos (eqT h7), if_pos h7]
     by_cases ha : x.arg ≥ 0
     ·by_cases hb : x.arg < (locks.length : Int)
      ·rw [if_pos (decide_eq_true ha), if_pos (decide_eq_true hb), if_pos (decide_eq_true ha), if_pos (decide_eq_true hb), if_pos ⟨ha, hb⟩]
      ·rw [if_pos (decide_eq_true ha), if_neg (by simpa using hb), if_neg (fun h => hb h.2)]
     ·rw [if_neg (by simpa using ha), if_neg (fun h => ha h.1)]
    ·rw [if_neg (eqF h7), if_neg h7]
inductive Go1 (l : List aa) : Nat → Prop
 | start : Go1 l 0
 | on (i y : Nat) : Go1 l i → i < l.length → (y : Int) ∈ succ (List.getD l i ab) → Go1 l y
structure Lab (l : List aa) (locks : List W32) (T : Nat → W32) : Prop where
 zero : T 0 = 0#32
 all : ∀ i, i < l.length → Go1 l i
 fine : ∀ i, i < l.length → p6 locks (List.getD l i ab) (T i) = true
 on : ∀ i y : Nat, i < l.length → (y : Int) ∈ succ (List.getD l i ab) → T y = tbh (List.getD l i ab) (T i)
theorem DY {α : Type} (s : List α) (i j : Nat) (x d : α) (h : i < s.length) : List.getD (s.set i x) j d = if j = i then x else List.getD s j d := by
 by_cases e : j = i
 ·subst e; simp [List.getD, h]
 ·have : i ≠ j := fun e' => e e'.symm
  rw [if_neg e]
  simp [List.getD, List.getElem?_set, this]
theorem gdE {α : Type} (s : List α) (i : Nat) (d : α) (h : i < s.length) : List.getD s i d = s[i] := by simp [List.getD, h]
structure vS (l : List aa) (locks : List W32) (out : List W32) (met : List Bool) (todo : List Int) (ok : Bool) : Prop where
 ol : out.length = l.length
 ml : met.length = l.length
 td : ∀ y ∈ todo, ∃ b : Nat, y = (b : Int) ∧ b < l.length ∧ Sn met b
 z : Sn met 0
 oz : List.getD out 0 0#32 = 0#32
 go : ∀ i, Sn met i → Go1 l i
 lab : ∀ T, Lab l locks T → ok = true ∧ ∀ i, Sn met i → List.getD out i 0#32 = T i
structure Don (l : List aa) (locks : List W32) (out : List W32) (met : List Bool) (ok : Bool) (i : Nat) : Prop where
 s : ∀ y : Nat, (y : Int) ∈ succ (List.getD l i ab) → Sn met y
 f : ok = true → p6 locks (List.getD l i ab) (List.getD out i 0#32) = true ∧ ∀ y : Nat, (y : Int) ∈ succ (List.getD l i ab) → List.getD out y 0#32 = tbh (List.getD l i ab) (List.getD out i 0#32)
structure Gro (out : List W32) (met : List Bool) (ok : Bool) (out' : List W32) (met' : List Bool) (ok' : Bool) : Prop where
 m : ∀ y, Sn met y → Sn met' y
 o : ∀ y, Sn met y → List.getD out' y 0#32 = List.getD out y 0#32
 k : ok' = true → ok = true
theorem Gro.refl (out : List W32) (met : List Bool) (ok : Bool) : Gro out met ok out met ok := ⟨fun _ h => h, fun _ _ => rfl, id⟩
theorem Gro.trans {o1 o2 o3 : List W32} {m1 m2 m3 : List Bool} {k1 k2 k3 : Bool} (h : Gro o1 m1 k1 o2 m2 k2) (h2 : Gro o2 m2 k2 o3 m3 k3) : Gro o1 m1 k1 o3 m3 k3 := ⟨fun y hy => h2.m y (h.m y hy), fun y hy => (h2.o y (h.m y hy)).trans (h.o y hy), fun hk => h.k (h2.k hk)⟩
theorem uL (l : List aa) (locks : List W32) (i : Nat) (hi : i < l.length) (hll : l.length ≤ 65536) (hj : ∀ y ∈ succ (List.getD l i ab), 0 ≤ y ∧ y < (l.length : Int)) : ∀ (m k : Nat) (out : List W32) (met : List Bool) (todo : List Int) (ok : Bool), k + m = (succ (List.getD l i ab)).length → vS l locks out met todo ok → Sn met i → todo.length + met.count false ≤ 1000000 → (∀ T, Lab l locks T → tbh (List.getD l i ab) (List.getD out i 0#32) = tbh (List.getD l i ab) (T i)) →
  ∃ out' met' todo' ok', aG out met todo (succ (List.getD l i ab)) l locks ok (tbh (List.getD l i ab) (List.getD out i 0#32)) ((succ (List.getD l i ab)).length : Int) (k : Int) = some (.x1 out' met' todo' ok') ∧ vS l locks out' met' todo' ok' ∧ Gro out met ok out' met' ok' ∧ todo'.length + met'.count false = todo.length + met.count false ∧ met'.count false ≤ met.count false ∧ (∀ y ∈ todo, y ∈ todo') ∧ (∀ b : Nat, Sn met' b → Sn met b ∨ (b : Int) ∈ todo') ∧ ∀ j, k ≤ j → ∀ (h : j < (succ (List.getD l i ab)).length), ∃ b : Nat, (succ (List.getD l i ab))[j] = (b : Int) ∧ Sn met' b ∧ (ok' = true → List.getD out' b 0#32 = tbh (List.getD l i ab) (List.getD out i 0#32))
 | 0, k, out, met, todo, ok, h, hs, hmi, hlen, hT => by
  rw [aG, iN (by omega)]
  exact ⟨out, met, todo, ok, rfl, hs, .refl _ _ _, rfl, Nat.le_refl _, fun y hy => hy, fun b hb => .inl hb, fun j h1 h2 => by omega⟩
 | m + 1, k, out, met, todo, ok, h, hs, hmi, hlen, hT => by
  have hlt : k < (succ (List.getD l i ab)).length := by omega
  have hg : List.getD (succ (List.getD l i ab)) k 0 = (succ (List.getD l i ab))[k] := gdE _ _ _ hlt
  have hmem := List.getElem_mem hlt
  have hr := hj _ hmem
  obtain ⟨b, hb⟩ : ∃ b : Nat, (succ (List.getD l i ab))[k] = (b : Int) := ⟨((succ (List.getD l i ab))[k]).toNat, by omega⟩
  have hbm : (b : Int) ∈ succ (List.getD l i ab) := by rw [← hb]; exact hmem
  have hol := hs.ol
  have hml := hs.ml
  have hgi := hs.go i hmi
  have sl := mh (List.getD l i ab)
  rw [aG, iP (by omega), iP (by omega), iP (by omega), Int.toNat_natCast k, hg, hb]
  rw [hb] at hr
  rw [iN (by omega), iN (by omega), iP (by omega), iP (by omega), Int.toNat_natCast b, inc k (by omega)]
  by_cases hm : Sn met b
  ·have hm' : List.getD met b false = true := hm
   rw [hm', if_neg (by decide)]
   have fin : ∀ ok2 : Bool, (ok2 = true → ok = true ∧ List.getD out b 0#32 = tbh (List.getD l i ab) (List.getD out i 0#32)) → (∀ T, Lab l locks T → ok2 = true) → ∃ out' met' todo' ok', aG out met todo (succ (List.getD l i ab)) l locks ok2 (tbh (List.getD l i ab) (List.getD out i 0#32)) ((succ (List.getD l i ab)).length : Int) ((k + 1 : Nat) : Int) = some (.x1 out' met' todo' ok') ∧ vS l locks out' met' todo' ok' ∧ Gro out met ok out' met' ok' ∧ todo'.length + met'.count false = todo.length + met.count false ∧ met'.count false ≤ met.count false ∧ (∀ y ∈ todo, y ∈ todo') ∧ (∀ b : Nat, Sn met' b → Sn met b ∨ (b : Int) ∈ todo') ∧ ∀ j, k ≤ j → ∀ (h : j < (succ (List.getD l i ab)).length), ∃ b : Nat, (succ (List.getD l i ab))[j] = (b : Int) ∧ Sn met' b ∧ (ok' = true → List.getD out' b 0#32 = tbh (List.getD l i ab) (List.getD out i 0#32)) := fun ok2 h1 h2 => by
    obtain ⟨out', met', todo', ok', q1, q2, q3, q4, q5, q6, q7, q8⟩ := uL l locks i hi hll hj m (k + 1) out met todo ok2 (by omega) ⟨hs.ol, hs.ml, hs.td, hs.z, hs.oz, hs.go, fun T hL => ⟨h2 T hL, (hs.lab T hL).2⟩⟩ hmi hlen hT
    refine ⟨out', met', todo', ok', q1, q2, ⟨q3.m, q3.o, fun hk => (h1 (q3.k hk)).1⟩, q4, q5, q6, q7, fun j h3 h4 => ?_⟩
    rcases Nat.eq_or_lt_of_le h3 with rfl | h5
    ·exact ⟨b, hb, q3.m b hm, fun hk => (q3.o b hm).trans (h1 (q3.k hk)).2⟩
    ·exact q8 j h5 h4
   have hLb : ∀ T, Lab l locks T → (List.getD out b 0#32 == tbh (List.getD l i ab) (List.getD out i 0#32)) = true := fun T hL => by
    rw [beq_iff_eq, (hs.lab T hL).2 b hm, hT T hL]
    exact hL.on i b hi hbm
   by_cases hk : ok = true
   ·rw [if_pos hk, iP (by omega)]
    exact fin _ (fun h => ⟨hk, beq_iff_eq.1 h⟩) hLb
   ·rw [if_neg hk]
    exact fin false (fun h => by cases h) (fun T hL => absurd (hs.lab T hL).1 hk)
  ·have hm' : List.getD met b false = false := by
    rw [← Bool.not_eq_true]; exact hm
   have hbl : b < met.length := by omega
   have hbo : b < out.length := by omega
   have hib : i ≠ b := fun e => hm (by rw [← e]; exact hmi)
   have hb0 : b ≠ 0 := fun e => hm (by rw [e]; exact hs.z)
   have hcnt : (met.set b true).count false + 1 = met.count false := by
    have := List.count_set (l := met) (i := b) (a := true) (b := false) hbl
    have e : met[b] = false := by
     rw [← hm']; simp [List.getD, hbl]
    have hpos : 0 < met.count false := List.count_pos_iff.2 (by rw [← e]; exact List.getElem_mem hbl)
    rw [this, e]
    simp
    omega
   rw [hm', if_pos (by decide), iP (by omega), if_pos (Nat.ble_eq_true_of_le (by simp only [List.length_singleton, aF]; omega))]
   have eout : List.getD (out.set b (tbh (List.getD l i ab) (List.getD out i 0#32))) b 0#32 = tbh (List.getD l i ab) (List.getD out i 0#32) := by rw [DY _ _ _ _ _ hbo, if_pos rfl]
   have ei : List.getD (out.set b (tbh (List.getD l i ab) (List.getD out i 0#32))) i 0#32 = List.getD out i 0#32 := by rw [DY _ _ _ _ _ hbo, if_neg hib]
   have G : Gro out met ok (out.set b (tbh (List.getD l i ab) (List.getD out i 0#32))) (met.set b true) ok := ⟨fun y hy => (fa hbl).2 (.inr hy), fun y hy => by rw [DY _ _ _ _ _ hbo, if_neg (fun e => hm (by rw [← e]; exact hy))], id⟩
   have S : vS l locks (out.set b (tbh (List.getD l i ab) (List.getD out i 0#32))) (met.set b true) (todo ++ [(b : Int)]) ok := by
    refine ⟨by rw [List.length_set]; exact hol, by rw [List.length_set]; exact hml, fun y hy => ?_, (fa hbl).2 (.inr hs.z), by rw [G.o 0 hs.z]; exact hs.oz, fun y hy => ?_, fun T hL => ⟨(hs.lab T hL).1, fun y hy => ?_⟩⟩
    ·rcases List.mem_append.1 hy with h1 | h1
     ·obtain ⟨c, c1, c2, c3⟩ := hs.td y h1
      exact ⟨c, c1, c2, G.m c c3⟩
     ·exact ⟨b, List.mem_singleton.1 h1, by omega, (fa hbl).2 (.inl rfl)⟩
    ·rcases (fa hbl).1 hy with h1 | h1
     ·rw [h1]; exact .on i b hgi hi hbm
     ·exact hs.go y h1
    ·rcases (fa hbl).1 hy with h1 | h1
     ·rw [h1, eout, hT T hL]
      exact (hL.on i b hi hbm).symm
     ·rw [G.o y h1]
      exact (hs.lab T hL).2 y h1
   have go : ∃ out' met' todo' ok', aG (out.set b (tbh (List.getD l i ab) (List.getD out i 0#32))) (met.set b true) (todo ++ [(b : Int)]) (succ (List.getD l i ab)) l locks ok (tbh (List.getD l i ab) (List.getD out i 0#32)) ((succ (List.getD l i ab)).length : Int) ((k + 1 : Nat) : Int) = some (.x1 out' met' todo' ok') ∧ vS l locks out' met' todo' ok' ∧ Gro out met ok out' met' ok' ∧ todo'.length + met'.count false = todo.length + met.count false ∧ met'.count false ≤ met.count false ∧ (∀ y ∈ todo, y ∈ todo') ∧ (∀ b : Nat, Sn met' b → Sn met b ∨ (b : Int) ∈ todo') ∧ ∀ j, k ≤ j → ∀ (h : j < (succ (List.getD l i ab)).length), ∃ b : Nat, (succ (List.getD l i ab))[j] = (b : Int) ∧ Sn met' b ∧ (ok' = true → List.getD out' b 0#32 = tbh (List.getD l i ab) (List.getD out i 0#32)) := by
    have q := uL l locks i hi hll hj m (k + 1) _ _ _ ok (by omega) S ((fa hbl).2 (.inr hmi)) (by rw [List.length_append, List.length_singleton]; omega) (by rw [ei]; exact hT)
    rw [ei] at q
    obtain ⟨out', met', todo', ok', q1, q2, q3, q4, q5, q6, q7, q8⟩ := q
    refine ⟨out', met', todo', ok', q1, q2, G.trans q3, by rw [q4, List.length_append, List.length_singleton]; omega, by omega, fun y hy => q6 y (List.mem_append_left _ hy), fun c hc => ?_, fun j h3 h4 => ?_⟩
    ·rcases q7 c hc with h1 | h1
     ·rcases (fa hbl).1 h1 with h2 | h2
      ·exact .inr (q6 _ (List.mem_append_right _ (by rw [h2]; simp)))
      ·exact .inl h2
     ·exact .inr h1
    ·rcases Nat.eq_or_lt_of_le h3 with rfl | h5
     ·exact ⟨b, hb, q3.m b ((fa hbl).2 (.inl rfl)), fun _ => (q3.o b ((fa hbl).2 (.inl rfl))).trans eout⟩
     ·exact q8 j h5 h4
   by_cases hk : ok = true
   ·rw [if_pos hk, eout, show ((tbh (List.getD l i ab) (List.getD out i 0#32)) == (tbh (List.getD l i ab) (List.getD out i 0#32))) = ok by rw [hk]; simp]
    exact go
   ·rw [if_neg hk]
    rw [Bool.not_eq_true] at hk
    rw [hk] at go
    rw [hk]
    exact go
theorem Don.mono {l : List aa} {locks : List W32} {out out' : List W32} {met met' : List Bool} {ok ok' : Bool} {i : Nat} (h : Don l locks out met ok i) (G : Gro out met ok out' met' ok') (hi : Sn met i) : Don l locks out' met' ok' i := ⟨fun y hy => G.m y (h.s y hy), fun hk => by
 obtain ⟨h1, h2⟩ := h.f (G.k hk)
 rw [G.o i hi]
 exact ⟨h1, fun y hy => (G.o y (h.s y hy)).trans (h2 y hy)⟩⟩
theorem BX (l : List aa) (locks : List W32) (hll : l.length ≤ 65536) (hsr : ∀ i, i < l.length → ∀ y ∈ succ (List.getD l i ab), 0 ≤ y ∧ y < (l.length : Int)) : ∀ (d : Nat) (out : List W32) (met : List Bool) (todo : List Int) (ok : Bool), 2 * met.count false + todo.length ≤ d → todo.length + met.count false ≤ 1000000 → vS l locks out met todo ok → (∀ i : Nat, Sn met i → (i : Int) ∉ todo → Don l locks out met ok i) → ∃ out' met' ok', bi out met todo l locks ok = some (.x1 out' met' ok') ∧ vS l locks out' met' [] ok' ∧ ∀ i, Sn met' i → Don l locks out' met' ok' i
 | d, out, met, todo, ok, hd, hbig, hs, hdon => by
  rcases Nat.eq_zero_or_pos todo.length with h0 | hpos
  ·have : todo = [] := List.eq_nil_of_length_eq_zero h0
   subst this
   rw [bi, if_neg (by decide)]
   exact ⟨out, met, ok, rfl, hs, fun i hi => hdon i hi (fun h => by cases h)⟩
  ·match d, hd with
   | 0, hd => omega
   | d + 1, hd =>
    have e1 : aD ((todo.length : Nat) : Int) 1 = ((todo.length - 1 : Nat) : Int) := by rw [i7 (by omega) (by omega)]; omega
    have hlast : todo.length - 1 < todo.length := by omega
    obtain ⟨i, hi1, hi2, hi3⟩ := hs.td _ (List.getElem_mem hlast)
    have hg : List.getD todo (todo.length - 1) 0 = (i : Int) := by rw [gdE _ _ _ hlast]; exact hi1
    have hol := hs.ol
    have mem_or : ∀ y ∈ todo, y ∈ todo.take (todo.length - 1) ∨ y = (i : Int) := fun y hy => by
     obtain ⟨j, hj, e⟩ := List.mem_iff_getElem.1 hy
     rcases Nat.lt_or_ge j (todo.length - 1) with h1 | h1
     ·exact .inl (List.mem_iff_getElem.2 ⟨j, by rw [List.length_take]; omega, by rw [List.getElem_take]; exact e⟩)
     ·refine .inr (e.symm.trans ?_)
      have : j = todo.length - 1 := by omega
      subst this
      exact hi1
    have key : ∀ ok1 : Bool, (ok1 = true → ok = true ∧ p6 locks (List.getD l i ab) (List.getD out i 0#32) = true) → (∀ T, Lab l locks T → ok1 = true) → ∃ out' met' ok', (bind (aG out met (List.take (todo.length - 1) todo) (succ (List.getD l i ab)) l locks ok1 (tbh (List.getD l i ab) (List.getD out i 0#32)) ((succ (List.getD l i ab)).length : Int) 0) fun q => (match q with | .x0 a b c e f => some (.x0 a b e f) | .x1 a b c e => bi a b c l locks e)) = some (bO.x1 out' met' ok') ∧ vS l locks out' met' [] ok' ∧ ∀ i, Sn met' i → Don l locks out' met' ok' i := fun ok1 k1 k2 => by
     have S : vS l locks out met (List.take (todo.length - 1) todo) ok1 := ⟨hs.ol, hs.ml, fun y hy => hs.td y (List.mem_of_mem_take hy), hs.z, hs.oz, hs.go, fun T hL => ⟨k2 T hL, (hs.lab T hL).2⟩⟩
     have hlt : (List.take (todo.length - 1) todo).length = todo.length - 1 := by rw [List.length_take]; omega
     have q := uL l locks i hi2 hll (hsr i hi2) (succ (List.getD l i ab)).length 0 out met (List.take (todo.length - 1) todo) ok1 (Nat.zero_add _) S hi3 (by omega) (fun T hL => by rw [(hs.lab T hL).2 i hi3])
     rw [show ((0 : Nat) : Int) = 0 from rfl] at q
     obtain ⟨o2, m2, t2, k3, q1, q2, q3, q4, q5, q6, q7, q8⟩ := q
     rw [bind_some q1]
     simp only []
     refine BX l locks hll hsr d o2 m2 t2 k3 (by omega) (by omega) q2 fun c hc hct => ?_
     rcases q7 c hc with h1 | h1
     ·by_cases e : c = i
      ·subst e
       have fnd : ∀ y : Nat, (y : Int) ∈ succ (List.getD l c ab) → Sn m2 y ∧ (k3 = true → List.getD o2 y 0#32 = tbh (List.getD l c ab) (List.getD out c 0#32)) := fun y hy => by
        obtain ⟨j, hj, e⟩ := List.mem_iff_getElem.1 hy
        obtain ⟨b, b1, b2, b3⟩ := q8 j (Nat.zero_le _) hj
        have : y = b := by rw [e] at b1; exact Int.ofNat.inj b1
        subst this
        exact ⟨b2, b3⟩
       refine ⟨fun y hy => (fnd y hy).1, fun hk => ?_⟩
       rw [q3.o c hi3]
       exact ⟨(k1 (q3.k hk)).2, fun y hy => (fnd y hy).2 hk⟩
      ·have hnt : (c : Int) ∉ todo := fun hm => by
        rcases mem_or _ hm with h2 | h2
        ·exact hct (q6 _ h2)
        ·exact e (Int.ofNat.inj h2)
       exact (hdon c h1 hnt).mono ⟨q3.m, q3.o, fun hk => (k1 (q3.k hk)).1⟩ h1
     ·exact absurd h1 hct
    rw [bi, iP (by omega), e1, iP (by omega), iP (by omega), iP (by omega), Int.toNat_natCast (todo.length - 1), hg, iP (by omega), iP (by omega), iP (by omega), Int.toNat_natCast i, bind_some (DX _ _ _)]
    by_cases hk : ok = true
    ·rw [if_pos hk, bind_some (fQ _)]
     exact key _ (fun h => ⟨hk, h⟩) fun T hL => by
      show p6 locks (List.getD l i ab) (List.getD out i 0#32) = true
      rw [(hs.lab T hL).2 i hi3]
      exact hL.fine i hi2
    ·rw [if_neg hk, bind_some (fQ _)]
     exact key false (fun h => by cases h) fun T hL => absurd (hs.lab T hL).1 hk
theorem uM (out : List W32) (met : List Bool) (hm : met.length ≤ 65536) : ∀ (m k : Nat) (ok : Bool), k + m = met.length → ∃ b, bo out met ok (met.length : Int) (k : Int) = some b ∧ (b = true ↔ ok = true ∧ ∀ i, k ≤ i → i < met.length → Sn met i)
 | 0, k, ok, h => by
  rw [bo, iN (by omega)]
  exact ⟨ok, rfl, ⟨fun h => ⟨h, fun i h1 h2 => by omega⟩, fun h => h.1⟩⟩
 | m + 1, k, ok, h => by
  rw [bo, iP (by omega), iP (by omega), iP (by omega), Int.toNat_natCast, inc k (by omega)]
  by_cases hk : ok = true
  ·rw [if_pos hk]
   obtain ⟨b, b1, b2⟩ := uM out met hm m (k + 1) (List.getD met k false) (by omega)
   refine ⟨b, b1, ?_⟩
   rw [b2]
   constructor
   ·rintro ⟨h1, h2⟩
    refine ⟨hk, fun i h3 h4 => ?_⟩
    rcases Nat.eq_or_lt_of_le h3 with rfl | h5
    ·exact h1
    ·exact h2 i h5 h4
   ·rintro ⟨_, h2⟩
    exact ⟨h2 k (Nat.le_refl _) (by omega), fun i h3 h4 => h2 i (by omega) h4⟩
  ·rw [if_neg hk]
   obtain ⟨b, b1, b2⟩ := uM out met hm m (k + 1) false (by omega)
   exact ⟨b, b1, by rw [b2]; exact ⟨fun h => absurd h.1 (by decide), fun h => absurd h.1 hk⟩⟩
theorem oO (l : List aa) (locks : List W32) (h0 : 0 < l.length) (hll : l.length ≤ 65536) (hsr : ∀ i, i < l.length → ∀ y ∈ succ (List.getD l i ab), 0 ≤ y ∧ y < (l.length : Int)) : ∃ b out, dq l locks = some (b, out) ∧ out.length = l.length ∧ (b = true → Lab l locks (fun i => List.getD out i 0#32)) ∧ ∀ T, Lab l locks T → b = true ∧ ∀ i, i < l.length → List.getD out i 0#32 = T i := by
 unfold dq
 rw [iP (by omega), if_pos (decide_eq_true (by simp only [aF]; omega)), if_pos (decide_eq_true (by simp only [aF]; omega)), if_neg (eqF (by omega)), Int.toNat_natCast, if_pos (decide_eq_true (by rw [List.length_replicate]; omega))]
 have hr0 : ∀ i, List.getD (List.replicate l.length (0#32 : W32)) i 0#32 = 0#32 := fun i => by
  rcases Nat.lt_or_ge i l.length with h | h
  ·rw [gdE _ _ _ (by rw [List.length_replicate]; exact h)]; simp
  ·simp [List.getD, h]
 have hm0 : ∀ y, Sn (List.set (List.replicate l.length false) 0 true) y ↔ y = 0 := fun y => by
  rw [fa (by rw [List.length_replicate]; exact h0)]
  exact ⟨fun h => h.elim id fun h => absurd h (i5 _ _), .inl⟩
 have S : vS l locks (List.replicate l.length 0#32) (List.set (List.replicate l.length false) 0 true) [0] true := by
  refine ⟨by simp, by simp, fun y hy => ⟨0, by rw [List.mem_singleton.1 hy]; rfl, h0, (hm0 0).2 rfl⟩, (hm0 0).2 rfl, hr0 0, fun i hi => by rw [(hm0 i).1 hi]; exact .start, fun T hL => ⟨rfl, fun i hi => ?_⟩⟩
  rw [(hm0 i).1 hi, hr0]
  exact hL.zero.symm
 have hc := List.count_le_length (a := false) (l := List.set (List.replicate l.length false) 0 true)
 rw [List.length_set, List.length_replicate] at hc
 obtain ⟨out, met, ok, q1, q2, q3⟩ := BX l locks hll hsr _ _ _ _ _ (Nat.le_refl _) (by rw [List.length_singleton]; omega) S (fun i hi hn => absurd (by rw [(hm0 i).1 hi]; simp) hn)
 have hml := q2.ml
 obtain ⟨b, b1, b2⟩ := uM out met (by omega) met.length 0 ok (Nat.zero_add _)
 rw [show ((0 : Nat) : Int) = 0 from rfl] at b1
 rw [bind_some q1]
 simp only []
 rw [bind_some b1]
 refine ⟨b, out, rfl, q2.ol, fun hb => ?_, fun T hL => ?_⟩
 ·obtain ⟨hk, hall⟩ := b2.1 hb
  have hmet : ∀ i, i < l.length → Sn met i := fun i hi => hall i (Nat.zero_le _) (by omega)
  exact ⟨q2.oz, fun i hi => q2.go i (hmet i hi), fun i hi => ((q3 i (hmet i hi)).f hk).1, fun i y hi hy => ((q3 i (hmet i hi)).f hk).2 y hy⟩
 ·have hgo : ∀ i, Go1 l i → Sn met i := fun i hi => by
   induction hi with
   | start => exact q2.z
   | on i y _ _ hy ih => exact (q3 i ih).s y hy
  have hk := (q2.lab T hL).1
  refine ⟨b2.2 ⟨hk, fun i _ hi => hgo i (hL.all i (by omega))⟩, fun i hi => (q2.lab T hL).2 i (hgo i (hL.all i hi))⟩
theorem Fc : fB = some true := nL 40 _ (by kernel_rfl)
def spn (l : List aa) : Nat → Nat → List Int
 | i, 0 => []
 | i, m + 1 => (if (List.getD l i ab).kind = 5 then [(i : Int)] else []) ++ spn l (i + 1) m
theorem BY (l : List aa) : ∀ (m i : Nat), (spn l i m).length ≤ m
 | 0, i => Nat.le_refl _
 | m + 1, i => by
  have := BY l m (i + 1)
  unfold spn
  split <;> simp <;> omega
end Go.Bm.GoYtipjbmnfnmlkfaaDoor
