import Derived.Test.YtipjbmnfnmlkfaaGreatDoorTZ4c
namespace Go.Bm.GoYtipjbmnfnmlkfaaGreatDoor
set_option autoImplicit false
set_option linter.unusedVariables false
set_option linter.unusedSimpArgs false
set_option maxRecDepth 100000
theorem iP {c : Prop} [Decidable c] {α : Sort _} {a b : α} (h : c) : (if decide c = true then a else b) = a := if_pos (decide_eq_true h)
theorem iN {c : Prop} [Decidable c] {α : Sort _} {a b : α} (h : ¬ c) : (if decide c = true then a else b) = b := if_neg (by rw [decide_eq_true_eq]; exact h)
theorem bind_some {α β : Type} {x : Option α} {v : α} {k : α → Option β} (h : x = some v) : (bind x k) = k v := by rw [h]; rfl
theorem inc (i : Nat) (h : i ≤ 1000000000) : av (i : Int) 1 = ((i + 1 : Nat) : Int) := by rw [dI (by omega) (by omega)]; omega
theorem eqT {a b : Int} (h : a = b) : ((a : Int) == b) = true := by simp [h]
theorem eqF {a b : Int} (h : a ≠ b) : ¬ ((a : Int) == b) = true := by simp [h]
theorem rR (n s : Int) : fH n s = some (decide (0 ≤ n ∧ n < s)) := by
 unfold fH
 by_cases h : n ≥ 0
 ·rw [if_pos (decide_eq_true h)]
  congr 1
  rw [decide_eq_decide]
  omega
 ·rw [if_neg (by simpa using h)]
  congr 1
  rw [eq_comm, decide_eq_false_iff_not]
  omega
structure pk (p : ad) (x : ac) (n : Int) : Prop where
 kind : 0 ≤ x.kind ∧ x.kind ≤ 9
 glob : x.kind = 1 ∨ x.kind = 2 → 0 ≤ x.arg ∧ x.arg < p.globals
 lock : x.kind = 3 ∨ x.kind = 4 → 0 ≤ x.arg ∧ x.arg < p.locks
 spawn : x.kind = 5 → 0 ≤ x.arg ∧ x.arg < p.funcs.length ∧ 0 ≤ x.alt ∧ x.alt < p.slots
 join : x.kind = 6 → 0 ≤ x.arg ∧ x.arg < p.slots
 call : x.kind = 7 → 0 ≤ x.arg ∧ x.arg < p.funcs.length
 next : x.kind ≠ 9 → 0 ≤ x.next ∧ x.next < max n 1
 alt : x.kind = 8 → 0 ≤ x.alt ∧ x.alt < max n 1
theorem C5 (p : ad) (x : ac) (n : Int) : ∃ b, iU p x n = some b ∧ (b = true → pk p x n) := by
 have go : ∀ v : Int × Int × Int × Bool, iT p x.kind n = some v → (v.2.2.2 = true → (0 ≤ x.arg ∧ x.arg < max v.1 1) → (0 ≤ x.next ∧ x.next < max v.2.1 1) → (0 ≤ x.alt ∧ x.alt < max v.2.2.1 1) → pk p x n) → ∃ b, iU p x n = some b ∧ (b = true → pk p x n) := by
  intro v hv hok
  have em : ∀ a : Int, (if 1 > a then 1 else a) = max a 1 := fun a => by split <;> omega
  unfold iU
  rw [bind_some hv]
  by_cases h0 : v.2.2.2 = true
  ·rw [if_pos h0, bind_some (rR _ _), em]
   by_cases h1 : 0 ≤ x.arg ∧ x.arg < max v.1 1
   ·rw [if_pos (decide_eq_true h1), bind_some (rR _ _), em]
    by_cases h2 : 0 ≤ x.next ∧ x.next < max v.2.1 1
    ·rw [if_pos (decide_eq_true h2), bind_some (rR _ _), em]
     exact ⟨_, rfl, fun h => hok h0 h1 h2 (of_decide_eq_true h)⟩
    ·rw [if_neg (by simpa using h2)]
     exact ⟨false, rfl, (fun h => by cases h)⟩
   ·rw [if_neg (by simpa using h1)]
    exact ⟨false, rfl, (fun h => by cases h)⟩
  ·rw [if_neg h0]
   exact ⟨false, rfl, (fun h => by cases h)⟩
 unfold iT at go
 by_cases k0 : x.kind = 0
 ·exact go (0, n, 0, true) (if_pos (eqT k0)) fun _ h1 h2 h3 => ⟨by omega, by omega, by omega, by omega, by omega, by omega, fun _ => h2, by omega⟩
 rw [if_neg (eqF k0)] at go
 by_cases k1 : x.kind = 1
 ·exact go _ (if_pos (eqT k1)) fun h0 h1 h2 h3 => by
   have h0 := of_decide_eq_true h0
   dsimp only at h0 h1 h2 h3
   exact ⟨by omega, by omega, by omega, by omega, by omega, by omega, by omega, by omega⟩
 rw [if_neg (eqF k1)] at go
 by_cases k2 : x.kind = 2
 ·exact go _ (if_pos (eqT k2)) fun h0 h1 h2 h3 => by
   have h0 := of_decide_eq_true h0
   dsimp only at h0 h1 h2 h3
   exact ⟨by omega, by omega, by omega, by omega, by omega, by omega, by omega, by omega⟩
 rw [if_neg (eqF k2)] at go
 by_cases k3 : x.kind = 3
 ·exact go _ (if_pos (eqT k3)) fun h0 h1 h2 h3 => by
   have h0 := of_decide_eq_true h0
   dsimp only at h0 h1 h2 h3
   exact ⟨by omega, by omega, by omega, by omega, by omega, by omega, by omega, by omega⟩
 rw [if_neg (eqF k3)] at go
 by_cases k4 : x.kind = 4
 ·exact go _ (if_pos (eqT k4)) fun h0 h1 h2 h3 => by
   have h0 := of_decide_eq_true h0
   dsimp only at h0 h1 h2 h3
   exact ⟨by omega, by omega, by omega, by omega, by omega, by omega, by omega, by omega⟩
 rw [if_neg (eqF k4)] at go
 by_cases k5 : x.kind = 5
 ·rw [if_pos (eqT k5)] at go
  by_cases hs : p.slots > 0
  ·rw [if_pos (decide_eq_true hs)] at go
   exact go _ rfl fun h0 h1 h2 h3 => by
    have h0 := of_decide_eq_true h0
    dsimp only at h0 h1 h2 h3
    exact ⟨by omega, by omega, by omega, by omega, by omega, by omega, by omega, by omega⟩
  ·rw [if_neg (by simpa using hs)] at go
   exact go _ rfl fun h0 => by cases h0
 rw [if_neg (eqF k5)] at go
 by_cases k6 : x.kind = 6
 ·exact go _ (if_pos (eqT k6)) fun h0 h1 h2 h3 => by
   have h0 := of_decide_eq_true h0
   dsimp only at h0 h1 h2 h3
   exact ⟨by omega, by omega, by omega, by omega, by omega, by omega, by omega, by omega⟩
 rw [if_neg (eqF k6)] at go
 by_cases k7 : x.kind = 7
 ·exact go _ (if_pos (eqT k7)) fun h0 h1 h2 h3 => by
   have h0 := of_decide_eq_true h0
   dsimp only at h0 h1 h2 h3
   exact ⟨by omega, by omega, by omega, by omega, by omega, by omega, by omega, by omega⟩
 rw [if_neg (eqF k7)] at go
 by_cases k8 : x.kind = 8
 ·exact go _ (if_pos (eqT k8)) fun _ h1 h2 h3 => by
   dsimp only at h1 h2 h3
   exact ⟨by omega, by omega, by omega, by omega, by omega, by omega, by omega, by omega⟩
 rw [if_neg (eqF k8)] at go
 by_cases k9 : x.kind = 9
 ·exact go _ (if_pos (eqT k9)) fun _ h1 h2 h3 => by
   exact ⟨by omega, by omega, by omega, by omega, by omega, by omega, by omega, by omega⟩
 rw [if_neg (eqF k9)] at go
 exact go _ rfl fun h0 => by cases h0
def tJ (p : ad) (l : List ac) (i : Nat) : Bool := (iU p (List.getD l i ae) (l.length : Int)).getD false
theorem Ed (p : ad) (l : List ac) (i : Nat) : iU p (List.getD l i ae) (l.length : Int) = some (tJ p l i) := by
 obtain ⟨b, h1, _⟩ := C5 p (List.getD l i ae) (l.length : Int)
 unfold tJ; rw [h1]; rfl
theorem Gr {p : ad} {l : List ac} {i : Nat} (h : tJ p l i = true) : pk p (List.getD l i ae) (l.length : Int) := by
 obtain ⟨b, h1, h3⟩ := C5 p (List.getD l i ae) (l.length : Int)
 unfold tJ at h; rw [h1] at h
 exact h3 h
def lN (q : Nat → Bool) : Nat → Nat → Option Nat
 | _, 0 => none
 | i, m + 1 => if q i = true then some i else lN q (i + 1) m
def cj {β : Type} (q : Nat → Option β) : Nat → Nat → Option (Nat × β)
 | _, 0 => none
 | i, m + 1 => match q i with
  | some b => some (i, b)
  | none => cj q (i + 1) m
theorem rS {q : Nat → Bool} : ∀ {m i : Nat}, lN q i m = none → ∀ k, i ≤ k → k < i + m → q k = false
 | 0, i, h, k, h1, h2 => by omega
 | m + 1, i, h, k, h1, h2 => by
  unfold lN at h
  split at h
  ·cases h
  ·rename_i hq
   rcases Nat.eq_or_lt_of_le h1 with rfl | h3
   ·simpa using hq
   ·exact rS h k h3 (by omega)
theorem ib {β : Type} {q : Nat → Option β} : ∀ {m i : Nat}, cj q i m = none → ∀ k, i ≤ k → k < i + m → q k = none
 | 0, i, h, k, h1, h2 => by omega
 | m + 1, i, h, k, h1, h2 => by
  unfold cj at h
  split at h
  ·cases h
  ·rename_i hq
   rcases Nat.eq_or_lt_of_le h1 with rfl | h3
   ·exact hq
   ·exact ib h k h3 (by omega)
theorem yc {q : Nat → Bool} : ∀ {m i k : Nat}, lN q i m = some k → i ≤ k ∧ k < i + m ∧ q k = true
 | m + 1, i, k, h => by
  unfold lN at h
  split at h
  ·cases h; exact ⟨Nat.le_refl _, by omega, by assumption⟩
  ·have := yc h; exact ⟨by omega, by omega, this.2.2⟩
theorem lO {β : Type} {q : Nat → Option β} : ∀ {m i : Nat} {k : Nat × β}, cj q i m = some k → i ≤ k.1 ∧ k.1 < i + m ∧ q k.1 = some k.2
 | m + 1, i, k, h => by
  unfold cj at h
  split at h
  ·cases h; exact ⟨Nat.le_refl _, by omega, by assumption⟩
  ·have := lO h; exact ⟨by omega, by omega, this.2.2⟩
theorem yd (p : ad) (x4 : Int) (x6 : List (List ac)) (x7 x8 : Int) (l : List ac) (hl : l.length ≤ 65536) : ∀ (m i : Nat), i + m = l.length → cD p.globals p.locks p.slots p.funcs x4 l x6 x7 x8 l (l.length : Int) (i : Int) =
  some (match lN (fun i => !tJ p l i) i m with | some k => .x0 k 3 | none => .x1)
 | 0, i, h => by rw [cD, iN (by omega)]; rfl
 | m + 1, i, h => by
  rw [cD, iP (by omega), iP (by omega), iP (by omega), Int.toNat_natCast, bind_some (Ed p l i), inc i (by omega)]
  unfold lN
  cases hb : tJ p l i with
  | false => rfl
  | true => exact yd p x4 x6 x7 x8 l hl m (i + 1) (by omega)
def zh (p : ad) (f : Nat) : Option (Int × Int) :=
 if (List.getD p.funcs f []).length = 0 then some (-1, 1) else if (List.getD p.funcs f []).length > 64 then some (-1, 4) else (lN (fun i => !tJ p (List.getD p.funcs f []) i) 0 (List.getD p.funcs f []).length).map fun k => ((k : Int), 3)
theorem Ao (p : ad) (hn : p.funcs.length ≤ 65536) : ∀ (m i : Nat), i + m = p.funcs.length → de p.globals p.locks p.slots p.funcs p.funcs (p.funcs.length : Int) (i : Int) =
  some (match cj (zh p) i m with | some (f, a, b) => .x0 f a b | none => .x1)
 | 0, i, h => by rw [de, iN (by omega)]; rfl
 | m + 1, i, h => by
  rw [de, iP (by omega), iP (by omega), iP (by omega), Int.toNat_natCast, inc i (by omega)]
  unfold cj
  have ih := Ao p hn m (i + 1) (by omega)
  rcases Nat.eq_zero_or_pos (List.getD p.funcs i []).length with h0 | h0
  ·rw [if_pos (eqT (by omega)), show zh p i = some (-1, 1) from if_pos h0]
  ·rw [if_neg (eqF (by omega))]
   by_cases h1 : (List.getD p.funcs i []).length > 64
   ·rw [iP (by omega), show zh p i = some (-1, 4) by unfold zh; rw [if_neg (by omega), if_pos h1]]
   ·rw [iN (by omega)]
    have h2 := yd p (i : Int) p.funcs (p.funcs.length : Int) (i : Int) (List.getD p.funcs i []) (by omega) (List.getD p.funcs i []).length 0 (by omega)
    rw [show ((0 : Nat) : Int) = 0 from rfl] at h2
    rw [bind_some h2, show zh p i = (lN (fun k => !tJ p (List.getD p.funcs i []) k) 0 (List.getD p.funcs i []).length).map fun k => ((k : Int), 3) by unfold zh; rw [if_neg (by omega), if_neg h1]]
    cases lN (fun k => !tJ p (List.getD p.funcs i []) k) 0 (List.getD p.funcs i []).length with
    | some k => rfl
    | none => exact ih
abbrev FS := List (List ac)
def Edge (fs : FS) (a b : Nat) : Prop := ∃ i, i < (List.getD fs a []).length ∧ (List.getD (List.getD fs a []) i ae).kind = 7 ∧ (List.getD (List.getD fs a []) i ae).arg = (b : Int)
inductive oJ (fs : FS) : Nat → Nat → Prop
 | refl (a : Nat) : oJ fs a a
 | step (a b c : Nat) : Edge fs a b → oJ fs b c → oJ fs a c
theorem oJ.trans {fs : FS} {a b c : Nat} (h : oJ fs a b) (k : oJ fs b c) : oJ fs a c := by
 induction h with
 | refl a => exact k
 | step a b d h _ ih => exact .step _ _ _ h (ih k)
theorem Ap {fs : FS} {S : Nat → Prop} (hS : ∀ x, S x → ∀ y, Edge fs x y → S y) {a b : Nat} (h : oJ fs a b) : S a → S b := by
 induction h with
 | refl a => exact id
 | step a b c e _ ih => exact fun ha => ih (hS a ha b e)
def fN (fs : FS) : Prop := ∀ f i, f < fs.length → i < (List.getD fs f []).length → (List.getD (List.getD fs f []) i ae).kind = 7 → 0 ≤ (List.getD (List.getD fs f []) i ae).arg ∧ (List.getD (List.getD fs f []) i ae).arg < fs.length
theorem jy {α : Type} {l : List α} {i : Nat} {d : α} (h : l.length ≤ i) : List.getD l i d = d := by simp [List.getD, h]
theorem Edge.lt {fs : FS} {a b : Nat} (hc : fN fs) (h : Edge fs a b) : a < fs.length ∧ b < fs.length := by
 obtain ⟨i, h1, h2, h3⟩ := h
 rcases Nat.lt_or_ge a fs.length with h4 | h4
 ·have := hc a i h4 h1 h2
  exact ⟨h4, by omega⟩
 ·rw [jy h4] at h1
  cases h1
def Sn (s : List Bool) (x : Nat) : Prop := List.getD s x false = true
theorem Sn.lt {s : List Bool} {x : Nat} (h : Sn s x) : x < s.length := by
 rcases Nat.lt_or_ge x s.length with h1 | h1
 ·exact h1
 ·unfold Sn at h; rw [jy h1] at h; cases h
theorem zi {s : List Bool} {a x : Nat} (ha : a < s.length) : Sn (s.set a true) x ↔ x = a ∨ Sn s x := by
 unfold Sn
 by_cases h : x = a
 ·subst h; simp [List.getD, ha]
 ·have : a ≠ x := fun e => h e.symm
  simp [List.getD, List.getElem?_set, this, h]
theorem uC : ∀ (l m : List Bool), l.length = m.length → (∀ x, Sn l x → Sn m x) → m.count false ≤ l.count false
 | [], [], _, _ => Nat.le_refl _
 | a :: l, b :: m, hl, h => by
  have ih := uC l m (by simpa using hl) fun x hx => h (x + 1) hx
  have h0 := h 0
  unfold Sn at h0
  cases a <;> cases b <;> simp_all <;> omega
theorem uD {s : List Bool} {a : Nat} (ha : a < s.length) (h : ¬ Sn s a) : (s.set a true).count false + 1 = s.count false := by
 have h1 : s[a] = false := by
  unfold Sn at h
  simpa [List.getD, ha] using h
 rw [List.count_set ha]
 have : 0 < s.count false := by
  rw [← h1]; exact List.count_pos_iff.2 (List.getElem_mem ha)
 simp [h1]
 omega
structure rT (fs : FS) (to : Nat) (s s' : List Bool) : Prop where
 len : s'.length = s.length
 mono : ∀ x, Sn s x → Sn s' x
 closed : ∀ x, Sn s' x → Sn s x ∨ (x ≠ to ∧ ∀ y, Edge fs x y → Sn s' y)
theorem ET (p : ad) (hc : fN p.funcs) (to : Nat) (n a : Nat) (ha : a < p.funcs.length) (hat : a ≠ to) (hlen : (List.getD p.funcs a []).length ≤ 65536)
  (self : List Bool → ad → Int → Int → Option (Bool × List Bool))
  (hs : ∀ (s : List Bool) (b : Nat), s.length = p.funcs.length → b < p.funcs.length → s.count false < n → ∃ r s', self s p (b : Int) (to : Int) = some (r, s') ∧ s'.length = p.funcs.length ∧ (r = true → oJ p.funcs b to) ∧ (r = false → Sn s' b ∧ rT p.funcs to s s')) :
  ∀ (m i : Nat) (s : List Bool), i + m = (List.getD p.funcs a []).length → s.length = p.funcs.length → s.count false < n → Sn s a →
  (∃ s', bv self s p.globals p.locks p.slots p.funcs (to : Int) (List.getD p.funcs a []) ((List.getD p.funcs a []).length : Int) (i : Int) = some (.x0 s' true) ∧ s'.length = p.funcs.length ∧ oJ p.funcs a to) ∨
  (∃ s', bv self s p.globals p.locks p.slots p.funcs (to : Int) (List.getD p.funcs a []) ((List.getD p.funcs a []).length : Int) (i : Int) = some (.x1 s') ∧ rT p.funcs to s s' ∧ ∀ k, i ≤ k → k < (List.getD p.funcs a []).length → (List.getD (List.getD p.funcs a []) k ae).kind = 7 → Sn s' (List.getD (List.getD p.funcs a []) k ae).arg.toNat)
 | 0, i, s, h, hl, hn, hsa => by
  rw [bv, iN (by omega)]
  exact .inr ⟨s, rfl, ⟨rfl, fun x hx => hx, fun x hx => .inl hx⟩, fun k h1 h2 => by omega⟩
 | m + 1, i, s, h, hl, hn, hsa => by
  rw [bv, iP (by omega), iP (by omega), iP (by omega), Int.toNat_natCast, inc i (by omega)]
  by_cases hk : (List.getD (List.getD p.funcs a []) i ae).kind = 7
  ·rw [if_pos (eqT hk)]
   have harg := hc a i ha (by omega) hk
   obtain ⟨b, hb⟩ : ∃ b : Nat, (List.getD (List.getD p.funcs a []) i ae).arg = (b : Int) := ⟨_, (Int.toNat_of_nonneg harg.1).symm⟩
   have hE : Edge p.funcs a b := ⟨i, by omega, hk, hb⟩
   rw [hb] at harg ⊢
   obtain ⟨r, s1, q1, q2, q3, q4⟩ := hs s b hl (by omega) hn
   rw [bind_some q1]
   cases r with
   | true =>
    rw [if_pos rfl]
    exact .inl ⟨s1, rfl, q2, .step _ _ _ hE (q3 rfl)⟩
   | false =>
    rw [if_neg (show ¬ (false, s1).1 = true from Bool.false_ne_true), if_pos (decide_eq_true (by show s1.length = s.length; omega))]
    obtain ⟨q5, q6⟩ := q4 rfl
    have hmono := uC s s1 (by omega) q6.mono
    rcases ET p hc to n a ha hat hlen self hs m (i + 1) s1 (by omega) q2 (by omega) (q6.mono _ hsa) with ⟨s', g1, g2⟩ | ⟨s', g1, g2, g3⟩
    ·exact .inl ⟨s', g1, g2⟩
    ·refine .inr ⟨s', g1, ⟨g2.len.trans q6.len, fun x hx => g2.mono x (q6.mono x hx), fun x hx => ?_⟩, fun k h1 h2 h3 => ?_⟩
     ·rcases g2.closed x hx with h4 | h4
      ·rcases q6.closed x h4 with h5 | h5
       ·exact .inl h5
       ·exact .inr ⟨h5.1, fun y hy => g2.mono y (h5.2 y hy)⟩
      ·exact .inr h4
     ·rcases Nat.eq_or_lt_of_le h1 with rfl | h4
      ·rw [hb, Int.toNat_natCast]
       exact g2.mono _ q5
      ·exact g3 k h4 h2 h3
  ·rw [if_neg (eqF hk)]
   rcases ET p hc to n a ha hat hlen self hs m (i + 1) s (by omega) hl hn hsa with ⟨s', g1, g2⟩ | ⟨s', g1, g2, g3⟩
   ·exact .inl ⟨s', g1, g2⟩
   ·refine .inr ⟨s', g1, g2, fun k h1 h2 h3 => ?_⟩
    rcases Nat.eq_or_lt_of_le h1 with rfl | h4
    ·exact absurd h3 hk
    ·exact g3 k h4 h2 h3
theorem ye (p : ad) (hc : fN p.funcs) (hlen : ∀ f, (List.getD p.funcs f []).length ≤ 65536) (to : Nat) : ∀ (n : Nat) (s : List Bool) (a : Nat), s.length = p.funcs.length → a < p.funcs.length → s.count false < n →
  ∃ r s', dl n s p (a : Int) (to : Int) = some (r, s') ∧ s'.length = p.funcs.length ∧ (r = true → oJ p.funcs a to) ∧ (r = false → Sn s' a ∧ rT p.funcs to s s' ∧ a ≠ to)
 | 0, s, a, hl, ha, hn => by omega
 | n + 1, s, a, hl, ha, hn => by
  show ∃ r s', fI (dl n) s p (a : Int) (to : Int) = some (r, s') ∧ _
  unfold fI
  by_cases hat : a = to
  ·rw [if_pos (eqT (by omega))]
   subst hat
   exact ⟨true, s, rfl, hl, fun _ => .refl _, (fun h => by cases h)⟩
  ·rw [if_neg (eqF (by omega)), iP (by omega), iP (by omega), Int.toNat_natCast]
   by_cases hsn : Sn s a
   ·rw [if_pos (show List.getD s a false = true from hsn)]
    exact ⟨false, s, rfl, hl, (fun h => by cases h), fun _ => ⟨hsn, ⟨rfl, fun x hx => hx, fun x hx => .inl hx⟩, hat⟩⟩
   ·rw [if_neg (show ¬ List.getD s a false = true from hsn), iP (by omega)]
    have hcount := uD (by omega) hsn
    rcases ET p hc to n a ha hat (hlen a) (dl n) (fun s b h1 h2 h3 => by
     obtain ⟨r, s', q1, q2, q3, q4⟩ := ye p hc hlen to n s b h1 h2 h3
     exact ⟨r, s', q1, q2, q3, fun h => ⟨(q4 h).1, (q4 h).2.1⟩⟩) (List.getD p.funcs a []).length 0 (s.set a true) (by omega) (by simpa using hl) (by omega) ((zi (by omega)).2 (.inl rfl)) with ⟨s', g1, g2, g3⟩ | ⟨s', g1, g2, g3⟩
    ·rw [show ((0 : Nat) : Int) = 0 from rfl] at g1
     rw [bind_some g1]
     exact ⟨true, s', rfl, g2, fun _ => g3, fun h => by cases h⟩
    ·rw [show ((0 : Nat) : Int) = 0 from rfl] at g1
     rw [bind_some g1]
     have hsub : ∀ x, Sn s x → Sn s' x := fun x hx => g2.mono x ((zi (by omega)).2 (.inr hx))
     refine ⟨false, s', rfl, by have := g2.len; rw [List.length_set] at this; omega, (fun h => by cases h), fun _ => ⟨g2.mono a ((zi (by omega)).2 (.inl rfl)), ⟨by have := g2.len; rw [List.length_set] at this; omega, hsub, fun x hx => ?_⟩, hat⟩⟩
     rcases g2.closed x hx with h1 | h1
     ·rcases (zi (by omega)).1 h1 with rfl | h1
      ·refine .inr ⟨hat, fun y hy => ?_⟩
       obtain ⟨k, k1, k2, k3⟩ := hy
       have := g3 k (Nat.zero_le _) k1 k2
       rw [k3, Int.toNat_natCast] at this
       exact this
      ·exact .inl h1
     ·exact .inr h1
theorem zj (n x : Nat) : ¬ Sn (List.replicate n false) x := by
 unfold Sn
 simp only [List.getD, List.getElem?_replicate]
 split <;> simp
theorem B3 (p : ad) (hc : fN p.funcs) (hlen : ∀ f, (List.getD p.funcs f []).length ≤ 65536) (hn : p.funcs.length ≤ 500) (a to : Nat) (ha : a < p.funcs.length) : ∃ r s', gN (List.replicate p.funcs.length false) p (a : Int) (to : Int) = some (r, s') ∧ (r = true ↔ oJ p.funcs a to) := by
 unfold gN
 obtain ⟨r, s', q1, q2, q3, q4⟩ := ye p hc hlen to 1000 (List.replicate p.funcs.length false) a (by simp) ha (by have := List.count_le_length (a := false) (l := List.replicate p.funcs.length false); simp at this ⊢; omega)
 refine ⟨r, s', q1, q3, fun hp => ?_⟩
 cases r with
 | true => rfl
 | false =>
  exfalso
  obtain ⟨h1, h2, h3⟩ := q4 rfl
  have hcl : ∀ x, Sn s' x → x ≠ to ∧ ∀ y, Edge p.funcs x y → Sn s' y := fun x hx => (h2.closed x hx).resolve_left (zj _ _)
  exact (hcl to (Ap (fun x hx => (hcl x hx).2) hp h1)).1 rfl
theorem Ee (q : Nat → Bool) (i m : Nat) : lN q i (m + 1) = if q i = true then some i else lN q (i + 1) m := rfl
theorem fc {β : Type} (q : Nat → Option β) (i m : Nat) : cj q i (m + 1) = match q i with
  | some b => some (i, b)
  | none => cj q (i + 1) m := rfl
def Bad (fs : FS) (f i : Nat) : Prop := (List.getD (List.getD fs f []) i ae).kind = 7 ∧ ∃ a : Nat, (List.getD (List.getD fs f []) i ae).arg = (a : Int) ∧ oJ fs a f
noncomputable def B4 (fs : FS) (f i : Nat) : Bool := @decide (Bad fs f i) (Classical.propDecidable _)
theorem uE {fs : FS} {f i : Nat} : B4 fs f i = true ↔ Bad fs f i := by
 unfold B4
 exact @decide_eq_true_iff _ (Classical.propDecidable _)
theorem Aq (p : ad) (hc : fN p.funcs) (hlen : ∀ f, (List.getD p.funcs f []).length ≤ 65536) (hn : p.funcs.length ≤ 500) (f : Nat) (hf : f < p.funcs.length) (x5 : FS) (x6 x7 : Int) : ∀ (m i : Nat), i + m = (List.getD p.funcs f []).length → cz p.globals p.locks p.slots p.funcs (f : Int) x5 x6 x7 (List.getD p.funcs f []) ((List.getD p.funcs f []).length : Int) (i : Int) =
  some (match lN (B4 p.funcs f) i m with | some k => .x0 k true | none => .x1)
 | 0, i, h => by rw [cz, iN (by omega)]; rfl
 | m + 1, i, h => by
  have ih := Aq p hc hlen hn f hf x5 x6 x7 m (i + 1) (by omega)
  have hl := hlen f
  rw [cz, iP (by omega), iP (by omega), iP (by omega), Int.toNat_natCast, inc i (by omega), ih]
  rw [Ee]
  by_cases hk : (List.getD (List.getD p.funcs f []) i ae).kind = 7
  ·rw [if_pos (eqT hk), iP (by omega), if_pos (decide_eq_true (by simp only [aK]; omega)), Int.toNat_natCast]
   have harg := hc f i hf (by omega) hk
   obtain ⟨b, hb⟩ : ∃ b : Nat, (List.getD (List.getD p.funcs f []) i ae).arg = (b : Int) := ⟨_, (Int.toNat_of_nonneg harg.1).symm⟩
   rw [hb] at harg ⊢
   obtain ⟨r, s', q1, q2⟩ := B3 p hc hlen hn b f (by omega)
   rw [bind_some q1]
   have hq : B4 p.funcs f i = r := by
    rw [Bool.eq_iff_iff, uE, q2]
    constructor
    ·rintro ⟨_, a, h1, h2⟩
     have : a = b := by omega
     rw [← this]; exact h2
    ·exact fun h => ⟨hk, b, hb, h⟩
   rw [hq]
   cases r with
   | true => rfl
   | false => rfl
  ·rw [if_neg (eqF hk)]
   have hq : B4 p.funcs f i = false := by
    rw [Bool.eq_false_iff]
    intro h
    exact hk (uE.1 h).1
   rw [hq]
   rfl
noncomputable def Ht (fs : FS) (f : Nat) : Option Nat := lN (B4 fs f) 0 (List.getD fs f []).length
theorem Ar (p : ad) (hc : fN p.funcs) (hlen : ∀ f, (List.getD p.funcs f []).length ≤ 65536) (hn : p.funcs.length ≤ 500) : ∀ (m i : Nat), i + m = p.funcs.length → df p.globals p.locks p.slots p.funcs p.funcs (p.funcs.length : Int) (i : Int) =
  some (match cj (Ht p.funcs) i m with | some (f, k) => .x0 f k true | none => .x1)
 | 0, i, h => by rw [df, iN (by omega)]; rfl
 | m + 1, i, h => by
  have ih := Ar p hc hlen hn m (i + 1) (by omega)
  have h2 := Aq p hc hlen hn i (by omega) p.funcs (p.funcs.length : Int) (i : Int) (List.getD p.funcs i []).length 0 (by omega)
  rw [show ((0 : Nat) : Int) = 0 from rfl] at h2
  rw [df, iP (by omega), iP (by omega), iP (by omega), Int.toNat_natCast, inc i (by omega), ih, bind_some h2]
  rw [fc]
  unfold Ht
  cases lN (B4 p.funcs i) 0 (List.getD p.funcs i []).length with
  | some k => rfl
  | none => rfl
inductive Via (fs : FS) (k : Nat) : Nat → Nat → Prop
 | edge (a b : Nat) : Edge fs a b → Via fs k a b
 | comp (a c b : Nat) : Via fs k a c → c < k → Via fs k c b → Via fs k a b
def tp (fs : FS) (a b : Nat) : Prop := ∃ c, Edge fs a c ∧ oJ fs c b
theorem tp.trans {fs : FS} {a b c : Nat} (h : tp fs a b) (k : tp fs b c) : tp fs a c := by
 obtain ⟨x, h1, h2⟩ := h
 obtain ⟨y, k1, k2⟩ := k
 exact ⟨x, h1, h2.trans (.step _ _ _ k1 k2)⟩
theorem Via.zero {fs : FS} {a b : Nat} (h : Via fs 0 a b) : Edge fs a b := by
 cases h with
 | edge _ _ e => exact e
 | comp _ _ _ _ h _ => omega
theorem Via.mono {fs : FS} {k : Nat} {a b : Nat} (h : Via fs k a b) : Via fs (k + 1) a b := by
 induction h with
 | edge a b e => exact .edge a b e
 | comp a c b _ hc _ ih1 ih2 => exact .comp a c b ih1 (by omega) ih2
theorem Via.succ {fs : FS} {k : Nat} {a b : Nat} (h : Via fs (k + 1) a b) : Via fs k a b ∨ (Via fs k a k ∧ Via fs k k b) := by
 induction h with
 | edge a b e => exact .inl (.edge a b e)
 | comp a c b _ hc _ ih1 ih2 =>
  by_cases hk : c = k
  ·subst hk
   have h1 : Via fs c a c := ih1.elim id fun h => h.1
   have h2 : Via fs c c b := ih2.elim id fun h => h.2
   exact .inr ⟨h1, h2⟩
  ·have hlt : c < k := by omega
   rcases ih1 with h1 | ⟨h1, h1'⟩ <;> rcases ih2 with h2 | ⟨h2, h2'⟩
   ·exact .inl (.comp a c b h1 hlt h2)
   ·exact .inr ⟨.comp a c k h1 hlt h2, h2'⟩
   ·exact .inr ⟨h1, .comp k c b h1' hlt h2⟩
   ·exact .inr ⟨h1, h2'⟩
theorem ic {α : Type} (t : List α) (x d : α) (a : Nat) : List.getD (t ++ [x]) a d = if a = t.length then x else List.getD t a d := by
 by_cases h : a = t.length
 ·subst h; simp [List.getD]
 ·rw [if_neg h]
  rcases Nat.lt_or_ge a t.length with h1 | h1
  ·simp [List.getD, List.getElem?_append_left h1]
  ·rw [jy (by simp; omega), jy (by omega)]
structure bo (p : ad) : Prop where
 globals : 0 ≤ p.globals ∧ p.globals ≤ 16
 locks : 0 ≤ p.locks ∧ p.locks ≤ 16
 slots : 0 ≤ p.slots ∧ p.slots ≤ 8
 funcs : 0 < p.funcs.length ∧ p.funcs.length ≤ 16
 len : ∀ f, f < p.funcs.length → 0 < (List.getD p.funcs f []).length ∧ (List.getD p.funcs f []).length ≤ 64
 node : ∀ f i, f < p.funcs.length → i < (List.getD p.funcs f []).length → pk p (List.getD (List.getD p.funcs f []) i ae) ((List.getD p.funcs f []).length : Int)
 acyc : ∀ f i, f < p.funcs.length → i < (List.getD p.funcs f []).length → ¬ Bad p.funcs f i
theorem bo.calls {p : ad} (h : bo p) : fN p.funcs := fun f i h1 h2 h3 => (h.node f i h1 h2).call h3
theorem bo.le {p : ad} (h : bo p) (f : Nat) : (List.getD p.funcs f []).length ≤ 64 := by
 rcases Nat.lt_or_ge f p.funcs.length with h1 | h1
 ·exact (h.len f h1).2
 ·rw [jy h1]; simp
theorem EU (p : ad) : ∃ b, fT p = some b ∧ (b = true → p.funcs.length ≤ 40 ∧ ∀ f, (List.getD p.funcs f []).length ≤ 100) := by
 unfold fT
 by_cases h : (p.funcs.length : Int) > 40
 ·rw [if_pos (decide_eq_true h)]
  exact ⟨false, rfl, (fun h => by cases h)⟩
 ·rw [if_neg (by simpa using h)]
  have key : ∀ (m i : Nat), i + m = p.funcs.length → bz p.globals p.locks p.slots p.funcs (i : Int) = some (.x0 false) ∨ (bz p.globals p.locks p.slots p.funcs (i : Int) = some .x1 ∧ ∀ f, i ≤ f → (List.getD p.funcs f []).length ≤ 100) := by
   intro m
   induction m with
   | zero =>
    intro i hi
    rw [bz, iN (by omega)]
    exact .inr ⟨rfl, fun f hf => by rw [jy (by omega)]; simp⟩
   | succ m ih =>
    intro i hi
    rw [bz, iP (by omega), iP (by omega), iP (by omega), Int.toNat_natCast, inc i (by omega)]
    by_cases h1 : ((List.getD p.funcs i []).length : Int) > 100
    ·rw [if_pos (decide_eq_true h1)]; exact .inl rfl
    ·rw [if_neg (by simpa using h1)]
     rcases ih (i + 1) (by omega) with h2 | ⟨h2, h3⟩
     ·exact .inl h2
     ·refine .inr ⟨h2, fun f hf => ?_⟩
      rcases Nat.eq_or_lt_of_le hf with rfl | hf
      ·omega
      ·exact h3 f hf
  have h1 := key p.funcs.length 0 (by omega)
  rw [show ((0 : Nat) : Int) = 0 from rfl] at h1
  rcases h1 with h2 | ⟨h2, h3⟩
  ·rw [bind_some h2]; exact ⟨false, rfl, (fun h => by cases h)⟩
  ·rw [bind_some h2]; exact ⟨true, rfl, fun _ => ⟨by omega, fun f => h3 f (Nat.zero_le _)⟩⟩
theorem yf (p : ad) : ∃ r, aH p = some r ∧ (r.2.2 = 0 → r = (0, 0, 0) ∧ bo p) ∧ 0 ≤ r.2.2 ∧ r.2.2 ≤ 8 := by
 unfold aH
 have out : ∀ (c : Bool) (v : Int × Int × Int) (a : Option (Int × Int × Int)), (¬ c = true → ∃ r, a = some r ∧ (r.2.2 = 0 → r = (0, 0, 0) ∧ bo p) ∧ 0 ≤ r.2.2 ∧ r.2.2 ≤ 8) → v.2.2 ≠ 0 → 0 ≤ v.2.2 → v.2.2 ≤ 8 → ∃ r, (if c = true then some v else a) = some r ∧ (r.2.2 = 0 → r = (0, 0, 0) ∧ bo p) ∧ 0 ≤ r.2.2 ∧ r.2.2 ≤ 8 := by
  intro c v a h hv h0 h8
  by_cases hc : c = true
  ·rw [if_pos hc]; exact ⟨v, rfl, fun h => absurd h hv, h0, h8⟩
  ·rw [if_neg hc]; exact h hc
 refine out _ _ _ (fun c1 => ?_) (by decide) (by decide) (by decide)
 refine out _ _ _ (fun c2 => ?_) (by decide) (by decide) (by decide)
 refine out _ _ _ (fun c3 => ?_) (by decide) (by decide) (by decide)
 refine out _ _ _ (fun c4 => ?_) (by decide) (by decide) (by decide)
 refine out _ _ _ (fun c5 => ?_) (by decide) (by decide) (by decide)
 refine out _ _ _ (fun c6 => ?_) (by decide) (by decide) (by decide)
 refine out _ _ _ (fun c7 => ?_) (by decide) (by decide) (by decide)
 refine out _ _ _ (fun c8 => ?_) (by decide) (by decide) (by decide)
 simp only [decide_eq_true_eq, beq_iff_eq] at c1 c2 c3 c4 c5 c6 c7 c8
 have h1 := Ao p (by omega) p.funcs.length 0 (by omega)
 rw [show ((0 : Nat) : Int) = 0 from rfl] at h1
 rw [bind_some h1]
 cases hb : cj (zh p) 0 p.funcs.length with
 | some x =>
  obtain ⟨f, a, b⟩ := x
  have hx := (lO hb).2.2
  have hb0 : b ≠ 0 ∧ 0 ≤ b ∧ b ≤ 8 := by
   unfold zh at hx
   split at hx
   ·cases hx; decide
   ·split at hx
    ·cases hx; decide
    ·cases hq : lN (fun i => !tJ p (List.getD p.funcs f []) i) 0 (List.getD p.funcs f []).length with
     | none => rw [hq] at hx; cases hx
     | some k => rw [hq] at hx; cases hx; decide
  exact ⟨(f, a, b), rfl, fun h => absurd h hb0.1, hb0.2⟩
 | none =>
  have hno := ib hb
  have hgood1 : ∀ f, f < p.funcs.length → 0 < (List.getD p.funcs f []).length ∧ (List.getD p.funcs f []).length ≤ 64 ∧ ∀ i, i < (List.getD p.funcs f []).length → tJ p (List.getD p.funcs f []) i = true := by
   intro f hf
   have := hno f (Nat.zero_le _) (by omega)
   unfold zh at this
   split at this
   ·cases this
   ·split at this
    ·cases this
    ·rename_i g1 g2
     refine ⟨by omega, by omega, fun i hi => ?_⟩
     cases hq : lN (fun i => !tJ p (List.getD p.funcs f []) i) 0 (List.getD p.funcs f []).length with
     | some k => rw [hq] at this; cases this
     | none =>
      have := rS hq i (Nat.zero_le _) (by omega)
      simpa using this
  have hnode : ∀ f i, f < p.funcs.length → i < (List.getD p.funcs f []).length → pk p (List.getD (List.getD p.funcs f []) i ae) ((List.getD p.funcs f []).length : Int) := fun f i hf hi => Gr ((hgood1 f hf).2.2 i hi)
  have hc : fN p.funcs := fun f i g1 g2 g3 => (hnode f i g1 g2).call g3
  have hlen : ∀ f, (List.getD p.funcs f []).length ≤ 65536 := fun f => by
   rcases Nat.lt_or_ge f p.funcs.length with g | g
   ·have := (hgood1 f g).2.1; omega
   ·rw [jy g]; simp
  have h3 := Ar p hc hlen (by omega) p.funcs.length 0 (by omega)
  rw [show ((0 : Nat) : Int) = 0 from rfl] at h3
  unfold mr
  rw [h3]
  simp only [bind, Option.bind_some]
  cases hq : cj (Ht p.funcs) 0 p.funcs.length with
  | some x => exact ⟨((x.1 : Int), (x.2 : Int), 8), rfl, (fun h => by cases h), show (0 : Int) ≤ 8 by decide, show (8 : Int) ≤ 8 by decide⟩
  | none =>
   have hno2 := ib hq
   refine ⟨(0, 0, 0), rfl, fun _ => ⟨rfl, by omega, by omega, by omega, by omega, fun f hf => ⟨(hgood1 f hf).1, (hgood1 f hf).2.1⟩, hnode, fun f i hf hi hbad => ?_⟩, by decide, by decide⟩
   have := rS (hno2 f (Nat.zero_le _) (by omega)) i (Nat.zero_le _) (by omega)
   rw [uE.2 hbad] at this
   cases this
abbrev W32 := BitVec 32
theorem EV {a b : W32} (h : ∀ i, i < 32 → (a.getLsbD i = true ↔ b.getLsbD i = true)) : a = b := by
 apply BitVec.eq_of_getLsbD_eq
 intro i hi
 rw [Bool.eq_iff_iff]
 exact h i hi
theorem Hu {a : W32} {i : Nat} (h : a.getLsbD i = true) : i < 32 := by
 rcases Nat.lt_or_ge i 32 with h1 | h1
 ·exact h1
 ·rw [BitVec.getLsbD_of_ge _ _ h1] at h; cases h
theorem kq {a : W32} : a ≠ 0#32 ↔ ∃ i, a.getLsbD i = true := by
 constructor
 ·intro h
  apply Classical.byContradiction
  intro hn
  exact h (EV fun i _ => ⟨fun hi => absurd ⟨i, hi⟩ hn, fun hi => by simp at hi⟩)
 ·rintro ⟨i, hi⟩ rfl
  simp at hi
def one (id : Int) : W32 := if 0 ≤ id ∧ id < 32 then (1#32) <<< id.toNat else 0#32
theorem fB (id : Int) : cx id = some (one id) := by
 unfold cx one
 by_cases h0 : id < 0
 ·rw [if_pos (decide_eq_true h0), if_neg (by omega)]
 ·rw [if_neg (by simpa using h0)]
  by_cases h1 : id ≥ 32
  ·rw [if_pos (decide_eq_true h1), if_neg (by omega)]
  ·rw [if_neg (by simpa using h1), iP (by omega), if_pos (by omega)]
theorem lP (id : Int) (i : Nat) : (one id).getLsbD i = true ↔ id = (i : Int) ∧ i < 32 := by
 unfold one
 split
 ·rename_i h
  simp only [BitVec.getLsbD_shiftLeft, Bool.and_eq_true, decide_eq_true_eq, Bool.not_eq_true', decide_eq_false_iff_not, BitVec.getLsbD_one]
  omega
 ·rename_i h
  simp
  omega
theorem uF (k : Int) (l : List ac) (hl : l.length ≤ 65536) : ∀ (m i : Nat) (x : W32), i + m = l.length → ∃ x', dn k x l (l.length : Int) (i : Int) = some x' ∧ ∀ b, x'.getLsbD b = true ↔ x.getLsbD b = true ∨ (b < 32 ∧ ∃ j, i ≤ j ∧ j < l.length ∧ (List.getD l j ae).kind = k ∧ (List.getD l j ae).arg = (b : Int))
 | 0, i, x, h => by
  rw [dn, iN (by omega)]
  exact ⟨x, rfl, fun b => ⟨.inl, fun h => h.elim id fun ⟨_, j, h1, h2, _⟩ => by omega⟩⟩
 | m + 1, i, x, h => by
  rw [dn, iP (by omega), iP (by omega), iP (by omega), Int.toNat_natCast, inc i (by omega)]
  by_cases hk : (List.getD l i ae).kind = k
  ·rw [if_pos (eqT hk), bind_some (fB _)]
   obtain ⟨x', q1, q2⟩ := uF k l hl m (i + 1) (x ||| one (List.getD l i ae).arg) (by omega)
   refine ⟨x', q1, fun b => ?_⟩
   rw [q2, BitVec.getLsbD_or, Bool.or_eq_true, lP]
   constructor
   ·rintro ((h1 | ⟨h1, h2⟩) | ⟨h1, j, h2, h3⟩)
    ·exact .inl h1
    ·exact .inr ⟨h2, i, Nat.le_refl _, by omega, hk, h1⟩
    ·exact .inr ⟨h1, j, by omega, h3⟩
   ·rintro (h1 | ⟨h1, j, h2, h3, h4, h5⟩)
    ·exact .inl (.inl h1)
    ·rcases Nat.eq_or_lt_of_le h2 with rfl | h6
     ·exact .inl (.inr ⟨h5, h1⟩)
     ·exact .inr ⟨h1, j, h6, h3, h4, h5⟩
  ·rw [if_neg (eqF hk)]
   obtain ⟨x', q1, q2⟩ := uF k l hl m (i + 1) x (by omega)
   refine ⟨x', q1, fun b => ?_⟩
   rw [q2]
   constructor
   ·rintro (h1 | ⟨h1, j, h2, h3⟩)
    ·exact .inl h1
    ·exact .inr ⟨h1, j, by omega, h3⟩
   ·rintro (h1 | ⟨h1, j, h2, h3, h4, h5⟩)
    ·exact .inl h1
    ·rcases Nat.eq_or_lt_of_le h2 with rfl | h6
     ·exact absurd h4 hk
     ·exact .inr ⟨h1, j, h6, h3, h4, h5⟩
theorem Au (l : List ac) (k : Int) (hl : l.length ≤ 65536) : ∃ x, iV l k = some x ∧ ∀ b, x.getLsbD b = true ↔ b < 32 ∧ ∃ j, j < l.length ∧ (List.getD l j ae).kind = k ∧ (List.getD l j ae).arg = (b : Int) := by
 obtain ⟨x, q1, q2⟩ := uF k l hl l.length 0 0#32 (by omega)
 rw [show ((0 : Nat) : Int) = 0 from rfl] at q1
 unfold iV
 rw [bind_some q1]
 exact ⟨x, rfl, fun b => by rw [q2]; simp⟩
theorem uG (fs : FS) (hn : fs.length ≤ 65536) (hlen : ∀ f, (List.getD fs f []).length ≤ 65536) : ∀ (m f : Nat) (t : List W32), f + m = fs.length → t.length = f → (∀ x b, x < f → ((List.getD t x 0#32).getLsbD b = true ↔ b < 32 ∧ Edge fs x b)) →
  ∃ t', db t fs (fs.length : Int) (f : Int) = some t' ∧ t'.length = fs.length ∧ ∀ x b, x < fs.length → ((List.getD t' x 0#32).getLsbD b = true ↔ b < 32 ∧ Edge fs x b)
 | 0, f, t, h, h1, h2 => by
  rw [db, iN (by omega)]
  exact ⟨t, rfl, by omega, fun x b hx => h2 x b (by omega)⟩
 | m + 1, f, t, h, h1, h2 => by
  obtain ⟨x, q1, q2⟩ := Au (List.getD fs f []) 7 (hlen f)
  rw [db, iP (by omega), iP (by omega), iP (by omega), Int.toNat_natCast, bind_some q1, if_pos (Nat.ble_eq_true_of_le (by simp only [List.length_singleton, aK]; omega)), inc f (by omega)]
  refine uG fs hn hlen m (f + 1) (t ++ [x]) (by omega) (by simp [h1]) fun y b hy => ?_
  rw [ic]
  split
  ·rename_i e
   rw [q2]
   have : y = f := by omega
   subst this
   exact Iff.rfl
  ·exact h2 y b (by omega)
theorem B5 (p : ad) (hn : p.funcs.length ≤ 65536) (hlen : ∀ f, (List.getD p.funcs f []).length ≤ 65536) : ∃ t, iG p = some t ∧ t.length = p.funcs.length ∧ ∀ x b, x < p.funcs.length → ((List.getD t x 0#32).getLsbD b = true ↔ b < 32 ∧ Edge p.funcs x b) := by
 obtain ⟨t, q1, q2⟩ := uG p.funcs hn hlen p.funcs.length 0 [] (by omega) rfl (fun x b hx => by omega)
 rw [show ((0 : Nat) : Int) = 0 from rfl] at q1
 unfold iG
 rw [bind_some q1]
 exact ⟨t, rfl, q2⟩
def fl (f : Nat → Bool) : Nat → Nat
 | 0 => 0
 | n + 1 => fl f n + (f n).toNat
theorem fC {f g : Nat → Bool} : ∀ {n : Nat}, (∀ i, i < n → f i = g i) → fl f n = fl g n
 | 0, _ => rfl
 | n + 1, h => by
  show fl f n + (f n).toNat = fl g n + (g n).toNat
  rw [fC fun i hi => h i (by omega), h n (by omega)]
theorem n9 (f : Nat → Bool) : ∀ n, fl f n ≤ n
 | 0 => Nat.le_refl _
 | n + 1 => by
  have := n9 f n
  show fl f n + (f n).toNat ≤ n + 1
  have : (f n).toNat ≤ 1 := Bool.toNat_le _
  omega
theorem oa {f : Nat → Bool} : ∀ {n : Nat}, fl f n = 0 ↔ ∀ i, i < n → f i = false
 | 0 => ⟨fun _ i hi => by omega, fun _ => rfl⟩
 | n + 1 => by
  show fl f n + (f n).toNat = 0 ↔ _
  constructor
  ·intro h i hi
   have h1 : fl f n = 0 := by omega
   have h2 : (f n).toNat = 0 := by omega
   by_cases hin : i = n
   ·subst hin; cases hf : f i with
    | false => rfl
    | true => rw [hf] at h2; cases h2
   ·exact oa.1 h1 i (by omega)
  ·intro h
   rw [oa.2 fun i hi => h i (by omega), h n (by omega)]
   rfl
theorem uH {f g : Nat → Bool} {k : Nat} : ∀ {n : Nat}, k < n → f k = true → g k = false → (∀ i, i ≠ k → g i = f i) → fl g n + 1 = fl f n
 | 0, h, _, _, _ => by omega
 | n + 1, h, h1, h2, h3 => by
  show fl g n + (g n).toNat + 1 = fl f n + (f n).toNat
  by_cases hk : k = n
  ·subst hk
   rw [fC (f := g) (g := f) fun i hi => h3 i (by omega), h1, h2]
   rfl
  ·have := uH (n := n) (by omega) h1 h2 h3
   rw [h3 n (fun e => hk e.symm)]
   omega
theorem uj : ∀ v, v < 256 → (fu fJ v).toNat = fl (fun i => v.testBit i) 8 := by decide +kernel
theorem EW : ByteArray.size fJ = 256 := by decide +kernel
theorem qg (f : Nat → Bool) (n : Nat) : ∀ m, fl f (n + m) = fl f n + fl (fun i => f (n + i)) m
 | 0 => rfl
 | m + 1 => by
  show fl f (n + m) + (f (n + m)).toNat = fl f n + (fl (fun i => f (n + i)) m + (f (n + m)).toNat)
  rw [qg f n m]
  omega
theorem Gs (x : W32) : d9 x = some ((fl (fun i => x.getLsbD i) 32 : Nat) : Int) := by
 unfold d9
 have e24 : BitVec.toNat (24#64) = 24 := rfl
 have e16 : BitVec.toNat (16#64) = 16 := rfl
 have e8 : BitVec.toNat (8#64) = 8 := rfl
 rw [e24, e16, e8]
 have hb : ∀ (y : W32), (y &&& 255#32).toNat < 256 := fun y => by
  rw [BitVec.toNat_and]
  exact Nat.lt_of_le_of_lt Nat.and_le_right (by decide)
 have h24 : (x >>> 24).toNat < 256 := by
  rw [BitVec.toNat_ushiftRight, Nat.shiftRight_eq_div_pow]
  have := x.isLt
  omega
 have b24 : fl (fun i => (x >>> 24).toNat.testBit i) 8 = fl (fun i => x.getLsbD (24 + i)) 8 := fC fun i hi => by
  show (x >>> 24).getLsbD i = _
  rw [BitVec.getLsbD_ushiftRight]
 have b255 : ∀ (y : W32) i, i < 8 → (y &&& 255#32).toNat.testBit i = y.getLsbD i := fun y i hi => by
  show (y &&& 255#32).getLsbD i = _
  rw [BitVec.getLsbD_and]
  have : (255#32).getLsbD i = true := by
   have : ∀ i, i < 8 → (255#32).getLsbD i = true := by decide
   exact this i hi
  rw [this, Bool.and_true]
 have b16 : fl (fun i => (x >>> 16 &&& 255#32).toNat.testBit i) 8 = fl (fun i => x.getLsbD (16 + i)) 8 := fC fun i hi => by
  rw [b255 _ i hi, BitVec.getLsbD_ushiftRight]
 have b8 : fl (fun i => (x >>> 8 &&& 255#32).toNat.testBit i) 8 = fl (fun i => x.getLsbD (8 + i)) 8 := fC fun i hi => by
  rw [b255 _ i hi, BitVec.getLsbD_ushiftRight]
 have b0 : fl (fun i => (x &&& 255#32).toNat.testBit i) 8 = fl (fun i => x.getLsbD i) 8 := fC fun i hi => b255 _ i hi
 rw [EW, iP (by omega), if_pos (decide_eq_true (by have := hb (x >>> 16); omega)), if_pos (decide_eq_true (by have := hb (x >>> 8); omega)), if_pos (decide_eq_true (by have := hb x; omega))]
 have t24 := uj _ h24
 have t16 := uj _ (hb (x >>> 16))
 have t8 := uj _ (hb (x >>> 8))
 have t0 := uj _ (hb x)
 rw [b24] at t24
 rw [b16] at t16
 rw [b8] at t8
 rw [b0] at t0
 have hs : fl (fun i => x.getLsbD i) 32 = fl (fun i => x.getLsbD i) 8 + fl (fun i => x.getLsbD (8 + i)) 8 + fl (fun i => x.getLsbD (16 + i)) 8 + fl (fun i => x.getLsbD (24 + i)) 8 := by
  have h1 := qg (fun i => x.getLsbD i) 24 8
  have h2 := qg (fun i => x.getLsbD i) 16 8
  have h3 := qg (fun i => x.getLsbD i) 8 8
  simp only [Nat.reduceAdd] at h1 h2 h3
  omega
 have l24 := n9 (fun i => x.getLsbD (24 + i)) 8
 have l16 := n9 (fun i => x.getLsbD (16 + i)) 8
 have l8 := n9 (fun i => x.getLsbD (8 + i)) 8
 have l0 := n9 (fun i => x.getLsbD i) 8
 congr 1
 rw [hs]
 simp only [BitVec.toNat_add]
 rw [t24, t16, t8, t0]
 omega
theorem EX (x : W32) : mw x = some ((fl (fun i => x.getLsbD i) 32 : Nat) : Int) := by
 unfold mw
 rw [bind_some (Gs x)]
theorem mQ (m : W32) (id : Int) : cH m id = some (if 0 ≤ id ∧ id < 32 then m.getLsbD id.toNat else false) := by
 unfold cH
 by_cases h0 : id ≥ 0
 ·rw [if_pos (decide_eq_true h0)]
  by_cases h1 : id < 32
  ·rw [if_pos (decide_eq_true h1), iP (by omega), if_pos (by omega)]
   congr 1
   rw [Bool.eq_iff_iff, beq_iff_eq]
   constructor
   ·intro h
    have := congrArg (fun v => BitVec.getLsbD v 0) h
    simpa using this
   ·intro h
    apply EV
    intro i hi
    rw [BitVec.getLsbD_and, BitVec.getLsbD_ushiftRight, BitVec.getLsbD_one]
    by_cases h2 : i = 0
    ·subst h2; simp [h]
    ·simp [h2]
  ·rw [if_neg (by simpa using h1), if_neg (by omega)]
 ·rw [if_neg (by simpa using h0), if_neg (by omega)]
def C6 : Nat → List Int → Prop
 | _, [] => True
 | n, x :: l => (n : Int) ≤ x ∧ x < 32 ∧ C6 (x.toNat + 1) l
def swp (l : List Int) (i k : Nat) : List Int := List.set (List.set l i (List.getD l k 0)) k (List.getD l i 0)
theorem uk (l : List Int) (i k : Nat) : (swp l i k).length = l.length := by simp [swp]
theorem uI (l : List Int) (i k : Nat) (hi : i < l.length) (hk : k < l.length) : (swp l i k).Perm l := by
 refine List.perm_iff_count.2 fun a => ?_
 have e1 : l.getD k 0 = l[k] := by simp [List.getD, hk]
 have e2 : l.getD i 0 = l[i] := by simp [List.getD, hi]
 unfold swp
 rw [e1, e2, List.count_set (by simpa using hk), List.count_set hi, List.getElem_set]
 have c1 : 0 < l.count l[i] := List.count_pos_iff.2 (List.getElem_mem hi)
 have c2 : 0 < l.count l[k] := List.count_pos_iff.2 (List.getElem_mem hk)
 by_cases hik : i = k
 ·subst hik
  simp only [if_true]
  by_cases ha : l[i] = a
  ·subst ha; simp
  ·have : (l[i] == a) = false := by simpa using ha
   simp [this]
 ·rw [if_neg hik]
  by_cases ha : l[i] = a <;> by_cases hb : l[k] = a
  ·simp [ha, hb]; subst ha; omega
  ·simp [ha, hb]; subst ha; omega
  ·simp [ha, hb]
  ·simp [ha, hb]
theorem zk (l : List Int) (i k : Int) (hi : 0 ≤ i) (hi' : i < l.length) (hk : 0 ≤ k) (hk' : k < l.length) : cF l i k = some (decide (List.getD l i.toNat 0 < List.getD l k.toNat 0)) := by
 unfold cF
 rw [if_pos (decide_eq_true hi), if_pos (decide_eq_true hi'), if_pos (decide_eq_true hk), if_pos (decide_eq_true hk')]
theorem zl (l : List Int) (i k : Int) (hi : 0 ≤ i) (hi' : i < l.length) (hk : 0 ≤ k) (hk' : k < l.length) : cG l i k = some (swp l i.toNat k.toNat) := by
 unfold cG
 rw [if_pos (decide_eq_true hk), if_pos (decide_eq_true hk'), if_pos (decide_eq_true hi), if_pos (decide_eq_true hi')]
 rfl
theorem Ha : ∀ (n : Nat) (l : List Int) (j : Int), j.toNat ≤ n → 0 ≤ j → j < l.length → l.length ≤ 1000000 → ∃ l', ir l j = some l' ∧ l'.Perm l
 | n, l, j, hn, h0, hj, hl => by
  rw [ir]
  rcases Int.lt_or_le j 1 with hj1 | hj1
  ·have : j = 0 := by omega
   subst this
   rw [if_pos (by decide)]
   exact ⟨l, rfl, .refl _⟩
  ·have e1 : aN j 1 = j - 1 := iH (by omega) (by omega)
   have e3 : (j - 1).tdiv 2 = (j - 1) / 2 := Int.tdiv_eq_ediv_of_nonneg (by omega)
   have e2 : rD (aN j 1) 2 = (j - 1) / 2 := by
    rw [e1]
    unfold rD
    rw [e3]
    exact s8 (by omega) (by omega)
   rw [e2]
   have hi0 : 0 ≤ (j - 1) / 2 := by omega
   have hi1 : (j - 1) / 2 < j := by omega
   rw [if_neg (eqF (by omega)), bind_some (zk l j ((j - 1) / 2) h0 hj hi0 (by omega))]
   split
   ·exact ⟨l, rfl, .refl _⟩
   ·rw [bind_some (zl l _ _ hi0 (by omega) h0 hj)]
    have hp := uI l ((j - 1) / 2).toNat j.toNat (by omega) (by omega)
    have hlen := uk l ((j - 1) / 2).toNat j.toNat
    rw [if_pos (decide_eq_true hlen)]
    match n, hn with
    | 0, hn => omega
    | n + 1, hn =>
     obtain ⟨l', h1, h2⟩ := Ha n (swp l ((j - 1) / 2).toNat j.toNat) ((j - 1) / 2) (by omega) hi0 (by rw [hlen]; omega) (by rw [hlen]; exact hl)
     exact ⟨l', h1, h2.trans hp⟩
theorem C7 (x1 : Int) (N : Nat) : ∀ (n : Nat) (l : List Int) (i : Int), N - i.toNat ≤ n → 0 ≤ i → i < l.length → N ≤ l.length → l.length ≤ 1000000 → ∃ r, dg l x1 (N : Int) i = some r ∧ r.1.Perm l
 | n, l, i, hn, h0, hi, hN, hl => by
  rw [dg]
  have e1 : cu 2 i = 2 * i := uu (by omega) (by omega)
  have e2 : av (cu 2 i) 1 = 2 * i + 1 := by rw [e1]; exact dI (by omega) (by omega)
  have e3 : av (av (cu 2 i) 1) 1 = 2 * i + 2 := by rw [e2, dI (by omega) (by omega)]; omega
  rw [e3, e2]
  have step : ∀ j : Int, i < j → j < (N : Int) → ∃ r, (dg (swp l i.toNat j.toNat) x1 (N : Int) j) = some r ∧ r.1.Perm l := by
   intro j h1 h2
   have hp := uI l i.toNat j.toNat (by omega) (by omega)
   have hlen := uk l i.toNat j.toNat
   match n, hn with
   | 0, hn => omega
   | n + 1, hn =>
    obtain ⟨r, h3, h4⟩ := C7 x1 N n (swp l i.toNat j.toNat) j (by omega) (by omega) (by rw [hlen]; omega) (by rw [hlen]; exact hN) (by rw [hlen]; exact hl)
    exact ⟨r, h3, h4.trans hp⟩
  have go : ∀ j : Int, i < j → j < (N : Int) → ∃ r, (bind (cF l j i) fun v => if (!v) = true then some (l, i) else bind (cG l i j) fun v => if (decide ((List.length v : Nat) = List.length l)) = true then dg v x1 (N : Int) j else none) = some r ∧ r.1.Perm l := by
   intro j h1 h2
   rw [bind_some (zk l j i (by omega) (by omega) h0 hi)]
   split
   ·exact ⟨(l, i), rfl, .refl _⟩
   ·rw [bind_some (zl l i j h0 hi (by omega) (by omega)), if_pos (decide_eq_true (uk _ _ _))]
    exact step j h1 h2
  by_cases h1 : (2 * i + 1 : Int) ≥ N
  ·rw [if_pos (decide_eq_true h1)]; exact ⟨(l, i), rfl, .refl _⟩
  ·rw [if_neg (by simpa using h1), if_neg (by simp; omega)]
   by_cases h2 : (2 * i + 2 : Int) < N
   ·rw [if_pos (decide_eq_true h2), bind_some (zk l (2 * i + 2) (2 * i + 1) (by omega) (by omega) (by omega) (by omega))]
    split
    ·exact go (2 * i + 2) (by omega) h2
    ·exact go (2 * i + 1) (by omega) (by omega)
   ·rw [if_neg (by simpa using h2)]
    exact go (2 * i + 1) (by omega) (by omega)
theorem C8 (l : List Int) (x : Int) (hl : l.length ≤ 65536) : ∃ l', lH l x = some l' ∧ l'.Perm (l ++ [x]) := by
 unfold lH jR eS zQ
 rw [if_pos (Nat.ble_eq_true_of_le (by simp only [List.length_singleton, aK]; omega))]
 simp only [bind, Option.bind_some]
 have e1 : aN (((l ++ [x]).length : Nat) : Int) 1 = l.length := by
  rw [List.length_append, List.length_singleton, iH (by omega) (by omega)]; omega
 rw [e1]
 obtain ⟨l', h1, h2⟩ := Ha l.length (l ++ [x]) (l.length : Int) (by omega) (by omega) (by simp; omega) (by simp; omega)
 rw [h1]
 exact ⟨l', rfl, h2⟩
theorem Hv (l : List Int) (h0 : 0 < l.length) (hl : l.length ≤ 65536) : ∃ x l', rt l = some (x, l') ∧ (l' ++ [x]).Perm l := by
 unfold rt eS
 have e1 : aN ((l.length : Nat) : Int) 1 = ((l.length - 1 : Nat) : Int) := by rw [iH (by omega) (by omega)]; omega
 simp only [bind, Option.bind_some, e1]
 rw [zl l 0 ((l.length - 1 : Nat) : Int) (by omega) (by omega) (by omega) (by omega)]
 simp only [Option.bind_some]
 have hp := uI l (0 : Int).toNat ((l.length - 1 : Nat) : Int).toNat (by simp; omega) (by omega)
 have hlen := uk l (0 : Int).toNat ((l.length - 1 : Nat) : Int).toNat
 rw [if_pos (decide_eq_true hlen)]
 unfold sR
 obtain ⟨r, h1, h2⟩ := C7 0 (l.length - 1) (l.length - 1) (swp l (0 : Int).toNat ((l.length - 1 : Nat) : Int).toNat) 0 (by omega) (by omega) (by rw [hlen]; omega) (by rw [hlen]; omega) (by rw [hlen]; omega)
 rw [h1]
 simp only [bind, Option.bind_some]
 have hrl : r.1.length = l.length := h2.length_eq.trans hlen
 unfold lc
 have e2 : aN ((r.1.length : Nat) : Int) 1 = ((l.length - 1 : Nat) : Int) := by rw [hrl]; exact e1
 rw [e2, iP (by omega), iP (by omega), iP (by omega)]
 refine ⟨_, _, rfl, ?_⟩
 have e3 : (((l.length - 1 : Nat) : Int)).toNat = l.length - 1 := by omega
 rw [e3]
 have e4 : List.take (l.length - 1) r.1 ++ [r.1.getD (l.length - 1) 0] = r.1 := by
  have hlt : l.length - 1 < r.1.length := by omega
  have := List.take_append_getElem hlt
  rw [List.getD_eq_getElem?_getD, List.getElem?_eq_getElem hlt]
  simp only [Option.getD_some]
  rw [this]
  exact List.take_of_length_le (by omega)
 rw [e4]
 exact h2.trans hp
theorem uJ : ∀ (n : Nat) (l : List Int), l.Nodup → (∀ x ∈ l, 0 ≤ x ∧ x < (n : Int)) → l.length ≤ n
 | 0, l, _, h => by
  cases l with
  | nil => simp
  | cons x l => have := h x (by simp); omega
 | n + 1, l, hn, h => by
  have h1 := uJ n (l.erase (n : Int)) (hn.erase _) fun x hx => by
   have h2 := h x (List.mem_of_mem_erase hx)
   have h3 : x ≠ (n : Int) := fun e => by
    subst e
    exact (List.Nodup.not_mem_erase hn) hx
   omega
  have h4 : l.length ≤ (l.erase (n : Int)).length + 1 := by
   rw [List.length_erase]
   split <;> omega
  omega
def mR (c : List W32) (out : List Int) (f : Nat) : Nat := fl (fun b => (List.getD c f 0#32).getLsbD b && !decide ((b : Int) ∈ out)) 32
theorem xr {c : List W32} {out : List Int} {f : Nat} {x : Nat} (hx : x < 32) (hn : (x : Int) ∉ out) (hb : (List.getD c f 0#32).getLsbD x = true) : mR c (out ++ [(x : Int)]) f + 1 = mR c out f := by
 refine uH (k := x) hx (by simp only [hb, hn, decide_false, Bool.not_false, Bool.and_self]) (by simp) fun i hi => ?_
 have : ((i : Int) ∈ out ++ [(x : Int)]) ↔ (i : Int) ∈ out := by simp; omega
 simp only [this]
theorem xu {c : List W32} {out : List Int} {f : Nat} {x : Nat} (hb : ¬ (List.getD c f 0#32).getLsbD x = true) : mR c (out ++ [(x : Int)]) f = mR c out f := by
 refine fC fun i hi => ?_
 by_cases h : i = x
 ·subst h
  have : (List.getD c f 0#32).getLsbD i = false := by simpa using hb
  rw [this, Bool.false_and, Bool.false_and]
 ·have : ((i : Int) ∈ out ++ [(x : Int)]) ↔ (i : Int) ∈ out := by simp; omega
  simp only [this]
structure Mid (c : List W32) (n : Nat) (out : List Int) (x : Nat) (ready wait : List Int) (g : Nat) : Prop where
 wl : wait.length = n
 nd : (out ++ [(x : Int)] ++ ready).Nodup
 rng : ∀ y ∈ out ++ [(x : Int)] ++ ready, 0 ≤ y ∧ y < (n : Int)
 lt : ∀ h, h < g → h < n → List.getD wait h 0 = (mR c (out ++ [(x : Int)]) h : Int)
 ge : ∀ h, g ≤ h → h < n → List.getD wait h 0 = (mR c out h : Int)
 zer : ∀ h : Nat, h < n → ((h : Int) ∈ out ++ [(x : Int)] ++ ready ↔ List.getD wait h 0 = 0)
theorem ce (l : List Int) (i j : Nat) (x : Int) (hi : i < l.length) : List.getD (l.set i x) j 0 = if j = i then x else List.getD l j 0 := by
 by_cases h : j = i
 ·subst h; simp [List.getD, hi]
 ·have : i ≠ j := fun e => h e.symm
  rw [if_neg h]
  simp [List.getD, List.getElem?_set, this]
theorem ob (c : List W32) (n : Nat) (hn : n ≤ 32) (hc : c.length = n) (out : List Int) (x : Nat) (hx : x < n) (x3 : List Int) : ∀ (m g : Nat) (wait ready : List Int), g + m = n → Mid c n out x ready wait g → ∃ wait' ready', cg c wait ready x3 (x : Int) (n : Int) (g : Int) = some (wait', ready') ∧ Mid c n out x ready' wait' n
 | 0, g, wait, ready, h, hm => by
  rw [cg, iN (by omega)]
  have : g = n := by omega
  subst this
  exact ⟨wait, ready, rfl, hm⟩
 | m + 1, g, wait, ready, h, hm => by
  have hwl := hm.wl
  have hnx : (x : Int) ∉ out := fun hin => by
   have := hm.nd
   rw [List.append_assoc, List.nodup_append] at this
   exact this.2.2 _ hin _ (by simp) rfl
  rw [cg, iP (by omega), iP (by omega), iP (by omega), Int.toNat_natCast, bind_some (show cH (List.getD c g 0#32) (x : Int) = some ((List.getD c g 0#32).getLsbD x) by rw [mQ, if_pos (by omega), Int.toNat_natCast]), inc g (by omega)]
  have hgw := hm.ge g (Nat.le_refl _) (by omega)
  by_cases hb : (List.getD c g 0#32).getLsbD x = true
  ·have hl := xr (c := c) (f := g) (by omega) hnx hb
   have hsub : aN (List.getD wait g 0) 1 = (mR c (out ++ [(x : Int)]) g : Int) := by
    rw [hgw, iH (by omega) (by have := n9 (fun b => (List.getD c g 0#32).getLsbD b && !decide ((b : Int) ∈ out)) 32; unfold mR; omega)]
    omega
   rw [if_pos hb, iP (by omega), hsub, ce _ _ _ _ (by omega), if_pos rfl]
   have hng : (g : Int) ∉ out ++ [(x : Int)] ++ ready := fun hin => by
    have := (hm.zer g (by omega)).1 hin
    omega
   by_cases h0 : mR c (out ++ [(x : Int)]) g = 0
   ·rw [if_pos (eqT (by omega))]
    have hsz := uJ n ready (List.nodup_append.1 hm.nd).2.1 (fun y hy => hm.rng y (List.mem_append_right _ hy))
    obtain ⟨ready', q1, q2⟩ := C8 ready (g : Int) (by omega)
    rw [bind_some q1]
    have hmem : ∀ y, y ∈ out ++ [(x : Int)] ++ ready' ↔ y ∈ out ++ [(x : Int)] ++ ready ∨ y = (g : Int) := fun y => by
     simp only [List.mem_append, q2.mem_iff, List.mem_singleton, or_assoc]
    refine ob c n hn hc out x hx x3 m (g + 1) _ ready' (by omega) ⟨by simpa using hwl, ?_, fun y hy => ?_, fun h h1 h2 => ?_, fun h h1 h2 => ?_, fun h h2 => ?_⟩
    ·have : (out ++ [(x : Int)] ++ ready').Perm (out ++ [(x : Int)] ++ ready ++ [(g : Int)]) := by
      rw [List.append_assoc (out ++ [(x : Int)])]
      exact q2.append_left _
     rw [this.nodup_iff, List.nodup_append]
     refine ⟨hm.nd, by simp, fun a ha b hb => ?_⟩
     rw [List.mem_singleton] at hb
     subst hb
     exact fun e => hng (e ▸ ha)
    ·rcases (hmem y).1 hy with h1 | rfl
     ·exact hm.rng y h1
     ·omega
    ·rw [ce _ _ _ _ (by omega)]
     split
     ·rename_i e; subst e; rfl
     ·exact hm.lt h (by omega) h2
    ·rw [ce _ _ _ _ (by omega), if_neg (by omega)]
     exact hm.ge h (by omega) h2
    ·rw [hmem, ce _ _ _ _ (by omega)]
     split
     ·rename_i e; subst e; simp [h0]
     ·rename_i e
      rw [← hm.zer h h2]
      constructor
      ·rintro (h1 | h1)
       ·exact h1
       ·omega
      ·exact .inl
   ·rw [if_neg (eqF (by omega))]
    refine ob c n hn hc out x hx x3 m (g + 1) _ ready (by omega) ⟨by simpa using hwl, hm.nd, hm.rng, fun h h1 h2 => ?_, fun h h1 h2 => ?_, fun h h2 => ?_⟩
    ·rw [ce _ _ _ _ (by omega)]
     split
     ·rename_i e; subst e; rfl
     ·exact hm.lt h (by omega) h2
    ·rw [ce _ _ _ _ (by omega), if_neg (by omega)]
     exact hm.ge h (by omega) h2
    ·rw [ce _ _ _ _ (by omega)]
     split
     ·rename_i e; subst e
      exact iff_of_false hng (by omega)
     ·exact hm.zer h h2
  ·rw [if_neg hb]
   have hl := xu (c := c) (out := out) (f := g) hb
   refine ob c n hn hc out x hx x3 m (g + 1) wait ready (by omega) ⟨hwl, hm.nd, hm.rng, fun h h1 h2 => ?_, fun h h1 h2 => hm.ge h (by omega) h2, hm.zer⟩
   by_cases e : h = g
   ·subst e; rw [hgw, hl]
   ·exact hm.lt h (by omega) h2
structure Ord (fs : FS) (c : List W32) (n : Nat) (out ready wait : List Int) : Prop where
 wl : wait.length = n
 nd : (out ++ ready).Nodup
 rng : ∀ y ∈ out ++ ready, 0 ≤ y ∧ y < (n : Int)
 cnt : ∀ h, h < n → List.getD wait h 0 = (mR c out h : Int)
 zer : ∀ h : Nat, h < n → ((h : Int) ∈ out ++ ready ↔ List.getD wait h 0 = 0)
 top : ∀ k, k < out.length → ∀ b, Edge fs (List.getD out k 0).toNat b → (b : Int) ∈ out.take k
theorem Ef {fs : FS} {c : List W32} {n : Nat} (hcb : ∀ x b, x < n → ((List.getD c x 0#32).getLsbD b = true ↔ b < 32 ∧ Edge fs x b)) (he : ∀ x b, Edge fs x b → b < 32) {out : List Int} {f : Nat} (hf : f < n) (h : mR c out f = 0) : ∀ b, Edge fs f b → (b : Int) ∈ out := by
 intro b hb
 have h1 := oa.1 h b (he f b hb)
 rw [(hcb f b hf).2 ⟨he f b hb, hb⟩, Bool.true_and] at h1
 simpa using h1
theorem yg (fs : FS) (c : List W32) (n : Nat) (hn : n ≤ 32) (hc : c.length = n) (hcb : ∀ x b, x < n → ((List.getD c x 0#32).getLsbD b = true ↔ b < 32 ∧ Edge fs x b)) (he : ∀ x b, Edge fs x b → b < 32) : ∀ (m : Nat) (out ready wait : List Int), n + 1 ≤ out.length + m → Ord fs c n out ready wait → ∃ out' wait', ew c wait ready out = some out' ∧ Ord fs c n out' [] wait'
 | m, out, ready, wait, hm, ho => by
  have hsz := uJ n _ ho.nd ho.rng
  rw [List.length_append] at hsz
  rw [ew]
  unfold eS
  simp only [bind, Option.bind_some]
  by_cases hr : 0 < ready.length
  ·rw [iP (by omega)]
   obtain ⟨xi, ready1, q1, q2⟩ := Hv ready hr (by omega)
   have hxr : xi ∈ ready := q2.mem_iff.1 (by simp)
   have hxn := ho.rng xi (List.mem_append_right _ hxr)
   obtain ⟨x, rfl⟩ : ∃ x : Nat, xi = (x : Int) := ⟨xi.toNat, by omega⟩
   rw [q1]
   simp only [Option.bind_some]
   rw [if_pos (Nat.ble_eq_true_of_le (by simp only [List.length_singleton, aK]; omega))]
   have hperm : (out ++ [(x : Int)] ++ ready1).Perm (out ++ ready) := by
    rw [List.append_assoc]
    exact ((List.perm_append_comm (l₁ := [(x : Int)]) (l₂ := ready1)).trans q2).append_left out
   obtain ⟨wait2, ready2, g1, g2⟩ := ob c n hn hc out x (by omega) (out ++ [(x : Int)]) n 0 wait ready1 (by omega) ⟨ho.wl, hperm.nodup_iff.2 ho.nd, fun y hy => ho.rng y (hperm.mem_iff.1 hy), fun h h1 => by omega, fun h _ h2 => ho.cnt h h2, fun h h2 => by rw [hperm.mem_iff]; exact ho.zer h h2⟩
   rw [show ((0 : Nat) : Int) = 0 from rfl] at g1
   rw [hc, g1]
   simp only [Option.bind_some]
   have hx0 : mR c out x = 0 := by
    have h1 := (ho.zer x (by omega)).1 (List.mem_append_right _ hxr)
    have h2 := ho.cnt x (by omega)
    omega
   match m, hm with
   | 0, hm => omega
   | m + 1, hm =>
    refine yg fs c n hn hc hcb he m (out ++ [(x : Int)]) ready2 wait2 (by simp; omega) ⟨g2.wl, g2.nd, g2.rng, fun h h2 => g2.lt h h2 h2, g2.zer, fun k hk b hb => ?_⟩
    rw [List.length_append, List.length_singleton] at hk
    rw [ic] at hb
    split at hb
    ·rename_i e
     subst e
     rw [Int.toNat_natCast] at hb
     rw [List.take_append_of_le_length (Nat.le_refl _), List.take_length]
     exact Ef hcb he (by omega) hx0 b hb
    ·rw [List.take_append_of_le_length (by omega)]
     exact ho.top k (by omega) b hb
  ·rw [iN (by omega)]
   have : ready = [] := List.length_eq_zero_iff.1 (by omega)
   subst this
   exact ⟨out, wait, rfl, ho⟩
theorem uK (c : List W32) (n : Nat) (hn : n ≤ 32) (hc : c.length = n) : ∀ (m i : Nat) (wait ready : List Int), i + m = n → wait.length = n → ready.Nodup → (∀ y ∈ ready, 0 ≤ y ∧ y < (i : Int)) → (∀ h, h < i → List.getD wait h 0 = (mR c [] h : Int)) → (∀ h : Nat, h < i → ((h : Int) ∈ ready ↔ List.getD wait h 0 = 0)) →
  ∃ wait' ready', dp c wait ready (n : Int) (i : Int) = some (wait', ready') ∧ wait'.length = n ∧ ready'.Nodup ∧ (∀ y ∈ ready', 0 ≤ y ∧ y < (n : Int)) ∧ (∀ h, h < n → List.getD wait' h 0 = (mR c [] h : Int)) ∧ (∀ h : Nat, h < n → ((h : Int) ∈ ready' ↔ List.getD wait' h 0 = 0))
 | 0, i, wait, ready, h, h1, h2, h3, h4, h5 => by
  rw [dp, iN (by omega)]
  have : i = n := by omega
  subst this
  exact ⟨wait, ready, rfl, h1, h2, h3, h4, h5⟩
 | m + 1, i, wait, ready, h, h1, h2, h3, h4, h5 => by
  rw [dp, iP (by omega), iP (by omega), iP (by omega), Int.toNat_natCast, bind_some (EX _), iP (by omega), inc i (by omega), ce _ _ _ _ (by omega), if_pos rfl]
  have hl : fl (fun b => (List.getD c i 0#32).getLsbD b) 32 = mR c [] i := fC fun b _ => by simp
  rw [hl]
  have hni : (i : Int) ∉ ready := fun hin => by have := h3 _ hin; omega
  by_cases h0 : mR c [] i = 0
  ·rw [if_pos (eqT (by omega))]
   have hsz := uJ i ready h2 h3
   obtain ⟨ready', q1, q2⟩ := C8 ready (i : Int) (by omega)
   rw [bind_some q1]
   have hmem : ∀ y, y ∈ ready' ↔ y ∈ ready ∨ y = (i : Int) := fun y => by rw [q2.mem_iff]; simp
   refine uK c n hn hc m (i + 1) _ ready' (by omega) (by simpa using h1) ?_ (fun y hy => ?_) (fun h hh => ?_) fun h hh => ?_
   ·rw [q2.nodup_iff, List.nodup_append]
    refine ⟨h2, by simp, fun a ha b hb => ?_⟩
    rw [List.mem_singleton] at hb
    subst hb
    exact fun e => hni (e ▸ ha)
   ·rcases (hmem y).1 hy with hy | rfl
    ·have := h3 y hy; omega
    ·omega
   ·rw [ce _ _ _ _ (by omega)]
    split
    ·rename_i e; subst e; rfl
    ·exact h4 h (by omega)
   ·rw [hmem, ce _ _ _ _ (by omega)]
    split
    ·rename_i e; subst e; simp [h0]
    ·rw [← h5 h (by omega)]
     constructor
     ·rintro (h6 | h6)
      ·exact h6
      ·omega
     ·exact .inl
  ·rw [if_neg (eqF (by omega))]
   refine uK c n hn hc m (i + 1) _ ready (by omega) (by simpa using h1) h2 (fun y hy => by have := h3 y hy; omega) (fun h hh => ?_) fun h hh => ?_
   ·rw [ce _ _ _ _ (by omega)]
    split
    ·rename_i e; subst e; rfl
    ·exact h4 h (by omega)
   ·rw [ce _ _ _ _ (by omega)]
    split
    ·rename_i e; subst e; exact iff_of_false hni (by omega)
    ·exact h5 h (by omega)
theorem Hw (n : Nat) (l : List Nat) (hd : l.Nodup) (h : ∀ x ∈ l, x < n) : l.length ≤ n := by
 have := uJ n (l.map Int.ofNat) (by
  rw [List.nodup_iff_pairwise_ne, List.pairwise_map]
  exact (List.nodup_iff_pairwise_ne.1 hd).imp fun {a b} (h : a ≠ b) => fun e => h (Int.ofNat.inj e)) (fun x hx => by
  obtain ⟨y, hy, rfl⟩ := List.mem_map.1 hx
  have := h y hy
  exact ⟨Int.natCast_nonneg y, by show (y : Int) < n; omega⟩)
 simpa using this
theorem Av {fs : FS} {n : Nat} {S : Nat → Prop} (hS : ∀ x, S x → x < n) (hstep : ∀ x, S x → ∃ y, S y ∧ Edge fs x y) (hac : ∀ f, f < n → ¬ tp fs f f) : ∀ (m : Nat) (V : List Nat) (u : Nat), V.Nodup → (∀ v ∈ V, v < n ∧ tp fs v u) → u ∉ V → S u → n ≤ V.length + m → False
 | m, V, u, hd, hV, hu, hs, hl => by
  have h1 : (u :: V).Nodup := List.nodup_cons.2 ⟨hu, hd⟩
  have h2 := Hw n (u :: V) h1 fun x hx => by
   rcases List.mem_cons.1 hx with rfl | hx
   ·exact hS _ hs
   ·exact (hV x hx).1
  rw [List.length_cons] at h2
  match m, hl with
  | 0, hl => omega
  | m + 1, hl =>
   obtain ⟨y, hy, e⟩ := hstep u hs
   have huy : tp fs u y := ⟨y, e, .refl _⟩
   refine Av hS hstep hac m (u :: V) y h1 (fun v hv => ?_) (fun hv => ?_) hy (by rw [List.length_cons]; omega)
   ·rcases List.mem_cons.1 hv with rfl | hv
    ·exact ⟨hS _ hs, huy⟩
    ·exact ⟨(hV v hv).1, (hV v hv).2.trans huy⟩
   ·rcases List.mem_cons.1 hv with rfl | hv
    ·exact hac _ (hS _ hs) huy
    ·exact hac _ (hV _ hv).1 ((hV _ hv).2.trans huy)
theorem bo.trans {p : ad} (h : bo p) (f : Nat) (hf : f < p.funcs.length) : ¬ tp p.funcs f f := by
 rintro ⟨c, ⟨i, h1, h2, h3⟩, h4⟩
 exact h.acyc f i hf h1 ⟨h2, c, h3, h4⟩
structure Hx (fs : FS) (out : List Int) : Prop where
 nd : out.Nodup
 rng : ∀ y ∈ out, 0 ≤ y ∧ y < (fs.length : Int)
 all : ∀ f : Nat, f < fs.length → (f : Int) ∈ out
 top : ∀ k, k < out.length → ∀ b, Edge fs (List.getD out k 0).toNat b → (b : Int) ∈ out.take k
theorem uL (p : ad) (hg : bo p) (hk : aH p = some (0, 0, 0)) : ∃ out, fK p = some (0, out) ∧ Hx p.funcs out := by
 obtain ⟨c, q1, q2, q3⟩ := B5 p (by have := hg.funcs; omega) (fun f => by have := hg.le f; omega)
 have hn := hg.funcs.2
 have he : ∀ x b, Edge p.funcs x b → b < 32 := fun x b e => by have := (e.lt hg.calls).2; omega
 unfold fK
 rw [bind_some hk, if_neg (by decide), bind_some q1, iP (by omega), if_pos (decide_eq_true (by simp only [aK]; omega)), Int.toNat_natCast, q2]
 obtain ⟨wait, ready, g1, g2, g3, g4, g5, g6⟩ := uK c p.funcs.length (by omega) q2 p.funcs.length 0 (List.replicate p.funcs.length 0) [] (by omega) (by simp) (by simp) (by simp) (fun h hh => by omega) (fun h hh => by omega)
 rw [show ((0 : Nat) : Int) = 0 from rfl] at g1
 rw [bind_some g1]
 obtain ⟨out, wait', k1, k2⟩ := yg p.funcs c p.funcs.length (by omega) q2 q3 he (p.funcs.length + 1) [] ready wait (by simp) ⟨g2, by simpa using g3, by simpa using g4, g5, by simpa using g6, fun k hk => by simp at hk⟩
 rw [bind_some k1]
 refine ⟨out, rfl, by simpa using k2.nd, by simpa using k2.rng, fun f hf => ?_, k2.top⟩
 apply Classical.byContradiction
 intro hno
 have hS : ∀ x, (x < p.funcs.length ∧ (x : Int) ∉ out) → ∃ y, (y < p.funcs.length ∧ (y : Int) ∉ out) ∧ Edge p.funcs x y := by
  rintro x ⟨hx, hxo⟩
  apply Classical.byContradiction
  intro hall
  have h0 : mR c out x = 0 := by
   refine oa.2 fun b hb => ?_
   cases hbit : (List.getD c x 0#32).getLsbD b with
   | false => rfl
   | true =>
    have e := ((q3 x b hx).1 hbit).2
    have hbn := (e.lt hg.calls).2
    have hin : (b : Int) ∈ out := by
     apply Classical.byContradiction
     intro h
     exact hall ⟨b, ⟨hbn, h⟩, e⟩
    simp [hin]
  have h1 := k2.cnt x hx
  rw [h0] at h1
  have := (k2.zer x hx).2 h1
  rw [List.append_nil] at this
  exact hxo this
 exact Av (n := p.funcs.length) (S := fun x => x < p.funcs.length ∧ (x : Int) ∉ out) (fun x h => h.1) hS hg.trans p.funcs.length [] f (by simp) (by simp) (by simp) ⟨hf, hno⟩ (by simp)
theorem Eg (p : ad) {a b e : Int} (hk : aH p = some (a, b, e)) (he : e ≠ 0) : fK p = some (e, []) := by
 unfold fK
 rw [bind_some hk, if_pos (by simpa using he)]
def succ (x : ac) : List Int := if x.kind = 9 then [] else if x.kind = 8 then [x.next, x.alt] else [x.next]
theorem fO (x : ac) : cy x = some (succ x) := by
 unfold cy succ
 by_cases h : x.kind = 9
 ·rw [if_pos (eqT h), if_pos h]
 ·rw [if_neg (eqF h), if_neg h]
  by_cases h8 : x.kind = 8
  ·rw [if_pos (eqT h8), if_pos h8]
  ·rw [if_neg (eqF h8), if_neg h8]
theorem ld (x : ac) : (succ x).length ≤ 2 := by
 unfold succ
 split
 ·simp
 ·split <;> simp
theorem oc {p : ad} {x : ac} {n : Int} (h : pk p x n) (hn : 1 ≤ n) : ∀ y ∈ succ x, 0 ≤ y ∧ y < n := by
 intro y hy
 unfold succ at hy
 split at hy
 ·cases hy
 ·rename_i h9
  have h1 := h.next h9
  split at hy
  ·rename_i h8
   have h2 := h.alt h8
   simp at hy
   rcases hy with rfl | rfl <;> omega
  ·simp at hy
   subst hy; omega
def To (l : List ac) (i y : Nat) : Prop := i < l.length ∧ y < l.length ∧ (y : Int) ∈ succ (List.getD l i ae)
structure Hb (l : List ac) (z : Int) (s : List Bool) (t : List Int) (s' : List Bool) (t' : List Int) : Prop where
 len : s'.length = l.length
 cnt : t'.length + s'.count false = t.length + s.count false
 iff : ∀ y, Sn s' y ↔ Sn s y ∨ ∃ i : Nat, z = (i : Int) ∧ To l i y
 keep : ∀ x, x ∈ t → x ∈ t'
 new : ∀ y, Sn s' y → Sn s y ∨ (y : Int) ∈ t'
 old : ∀ x, x ∈ t' → x ∈ t ∨ ∃ y : Nat, x = (y : Int) ∧ Sn s' y
theorem Hb.none {l : List ac} {z : Int} {s : List Bool} {t : List Int} (hs : s.length = l.length) (h : ∀ i : Nat, z = (i : Int) → ¬ i < l.length) : Hb l z s t s t :=
 ⟨hs, rfl, fun y => ⟨.inl, fun h1 => h1.elim (fun h => h) fun ⟨i, e, h2⟩ => absurd h2.1 (h i e)⟩, fun x h => h, fun y h => .inl h, fun x h => .inl h⟩
theorem C6.mono {m n : Nat} (h : m ≤ n) : ∀ {l : List Int}, C6 n l → C6 m l
 | [], _ => trivial
 | x :: l, hr => ⟨by have := hr.1; omega, hr.2⟩
def May (fs : FS) (of : ac → W32) (f b : Nat) : Prop := ∃ g, oJ fs f g ∧ ∃ j, j < (List.getD fs g []).length ∧ (of (List.getD (List.getD fs g []) j ae)).getLsbD b = true
theorem ig (l : List W32) (i j : Nat) (x : W32) (hi : i < l.length) : List.getD (l.set i x) j 0#32 = if j = i then x else List.getD l j 0#32 := by
 by_cases h : j = i
 ·subst h; simp [List.getD, hi]
 ·have : i ≠ j := fun e => h e.symm
  rw [if_neg h]
  simp [List.getD, List.getElem?_set, this]
theorem pd {l : List Int} {k : Nat} {y : Int} (h : y ∈ l.take k) : ∃ i, i < k ∧ i < l.length ∧ List.getD l i 0 = y := by
 obtain ⟨i, hi, e⟩ := List.mem_iff_getElem.1 h
 rw [List.length_take] at hi
 refine ⟨i, by omega, by omega, ?_⟩
 rw [List.getElem_take] at e
 rw [← e]
 simp [List.getD, show i < l.length by omega]
def ofU (x : ac) : W32 := if x.kind = 4 then one x.arg else 0#32
def ofB (x : ac) : W32 := if x.kind = 5 then 1#32 else 0#32
theorem Hy (x : ac) : jj x = some (ofU x) := by
 unfold jj ofU
 by_cases h : x.kind = 4
 ·rw [if_pos (eqT h), if_pos h, bind_some (fB _)]
 ·rw [if_neg (eqF h), if_neg h]
theorem H8 {x : ac} (h : x.kind = 7) : ofU x = 0#32 := by unfold ofU; rw [if_neg (by omega)]
theorem H9 {x : ac} (h : x.kind = 7) : ofB x = 0#32 := by unfold ofB; rw [if_neg (by omega)]
theorem uM (p : ad) (hg : bo p) (f : Nat) (hf : f < p.funcs.length) (x1 : List Int) (x7 x8 : Int) : ∀ (m i : Nat) (o : List W32), i + m = (List.getD p.funcs f []).length → o.length = p.funcs.length → ∃ o', cI o x1 p.globals p.locks p.slots p.funcs (f : Int) x7 x8 (List.getD p.funcs f []) ((List.getD p.funcs f []).length : Int) (i : Int) = some o' ∧ o'.length = p.funcs.length ∧ (∀ g, g ≠ f → List.getD o' g 0#32 = List.getD o g 0#32) ∧
  ∀ b, (List.getD o' f 0#32).getLsbD b = true ↔ (List.getD o f 0#32).getLsbD b = true ∨ ∃ j, i ≤ j ∧ j < (List.getD p.funcs f []).length ∧ (((List.getD (List.getD p.funcs f []) j ae).kind = 7 ∧ (List.getD o (List.getD (List.getD p.funcs f []) j ae).arg.toNat 0#32).getLsbD b = true) ∨ (ofU (List.getD (List.getD p.funcs f []) j ae)).getLsbD b = true)
 | 0, i, o, h, ho => by
  rw [cI, iN (by omega)]
  exact ⟨o, rfl, ho, fun g _ => rfl, fun b => ⟨.inl, fun h => h.elim (fun x => x) fun ⟨j, h1, h2, _⟩ => by omega⟩⟩
 | m + 1, i, o, h, ho => by
  have hle := hg.le f
  rw [cI, iP (by omega), iP (by omega), iP (by omega), Int.toNat_natCast i, inc i (by omega)]
  have fin : ∀ (y : W32), (∀ b, y.getLsbD b = true ↔ (((List.getD (List.getD p.funcs f []) i ae).kind = 7 ∧ (List.getD o (List.getD (List.getD p.funcs f []) i ae).arg.toNat 0#32).getLsbD b = true) ∨ (ofU (List.getD (List.getD p.funcs f []) i ae)).getLsbD b = true)) →
    ∃ o', cI (o.set f (List.getD o f 0#32 ||| y)) x1 p.globals p.locks p.slots p.funcs (f : Int) x7 x8 (List.getD p.funcs f []) ((List.getD p.funcs f []).length : Int) ((i + 1 : Nat) : Int) = some o' ∧ o'.length = p.funcs.length ∧ (∀ g, g ≠ f → List.getD o' g 0#32 = List.getD o g 0#32) ∧
    ∀ b, (List.getD o' f 0#32).getLsbD b = true ↔ (List.getD o f 0#32).getLsbD b = true ∨ ∃ j, i ≤ j ∧ j < (List.getD p.funcs f []).length ∧ (((List.getD (List.getD p.funcs f []) j ae).kind = 7 ∧ (List.getD o (List.getD (List.getD p.funcs f []) j ae).arg.toNat 0#32).getLsbD b = true) ∨ (ofU (List.getD (List.getD p.funcs f []) j ae)).getLsbD b = true) := by
   intro y hy
   obtain ⟨o', q1, q2, q3, q4⟩ := uM p hg f hf x1 x7 x8 m (i + 1) (o.set f (List.getD o f 0#32 ||| y)) (by omega) (by simpa using ho)
   refine ⟨o', q1, q2, fun g hgf => by rw [q3 g hgf, ig _ _ _ _ (by omega), if_neg hgf], fun b => ?_⟩
   rw [q4, ig _ _ _ _ (by omega), if_pos rfl, BitVec.getLsbD_or, Bool.or_eq_true, hy]
   have hsame : ∀ j, j < (List.getD p.funcs f []).length → (List.getD (List.getD p.funcs f []) j ae).kind = 7 → List.getD (o.set f (List.getD o f 0#32 ||| y)) (List.getD (List.getD p.funcs f []) j ae).arg.toNat 0#32 = List.getD o (List.getD (List.getD p.funcs f []) j ae).arg.toNat 0#32 := fun j hj hk => by
    rw [ig _ _ _ _ (by omega), if_neg]
    intro e
    have hc := hg.calls f j hf hj hk
    exact hg.acyc f j hf hj ⟨hk, f, by omega, .refl _⟩
   constructor
   ·rintro ((h1 | h1) | ⟨j, h1, h2, h3⟩)
    ·exact .inl h1
    ·exact .inr ⟨i, Nat.le_refl _, by omega, h1⟩
    ·refine .inr ⟨j, by omega, h2, h3.imp (fun h4 => ⟨h4.1, ?_⟩) fun x => x⟩
     rw [← hsame j h2 h4.1]; exact h4.2
   ·rintro (h1 | ⟨j, h1, h2, h3⟩)
    ·exact .inl (.inl h1)
    ·rcases Nat.eq_or_lt_of_le h1 with rfl | h5
     ·exact .inl (.inr h3)
     ·refine .inr ⟨j, h5, h2, h3.imp (fun h4 => ⟨h4.1, ?_⟩) fun x => x⟩
      rw [hsame j h2 h4.1]; exact h4.2
  by_cases hk : (List.getD (List.getD p.funcs f []) i ae).kind = 7
  ·have hc := hg.calls f i hf (by omega) hk
   rw [if_pos (eqT hk), iP (by omega), iP (by omega), if_pos (decide_eq_true hc.1), iP (by omega), Int.toNat_natCast f]
   exact fin _ fun b => by rw [H8 hk]; simp only [hk, true_and, BitVec.getLsbD_zero, Bool.false_eq_true, or_false]
  ·rw [if_neg (eqF hk), iP (by omega), iP (by omega), bind_some (Hy _), Int.toNat_natCast f]
   exact fin _ fun b => by simp only [hk, false_and, false_or]
theorem uN (p : ad) (hg : bo p) (out : List Int) (ht : Hx p.funcs out) : ∀ (m k : Nat) (o : List W32), k + m = out.length → o.length = p.funcs.length → (∀ f : Nat, (f : Int) ∈ out.take k → ∀ b, (List.getD o f 0#32).getLsbD b = true ↔ May p.funcs ofU f b) → (∀ f : Nat, (f : Int) ∉ out.take k → List.getD o f 0#32 = 0#32) →
  ∃ o', d7 o out p.globals p.locks p.slots p.funcs (out.length : Int) (k : Int) = some o' ∧ o'.length = p.funcs.length ∧ ∀ f : Nat, (f : Int) ∈ out → ∀ b, (List.getD o' f 0#32).getLsbD b = true ↔ May p.funcs ofU f b
 | 0, k, o, h, ho, h1, h2 => by
  rw [d7, iN (by omega)]
  rw [List.take_of_length_le (by omega)] at h1
  exact ⟨o, rfl, ho, h1⟩
 | m + 1, k, o, h, ho, h1, h2 => by
  have hn := hg.funcs.2
  have hol : out.length ≤ p.funcs.length := uJ _ _ ht.nd ht.rng
  have hlt : k < out.length := by omega
  have hgk : List.getD out k 0 = out[k] := by simp [List.getD, hlt]
  have hr := ht.rng _ (List.getElem_mem hlt)
  obtain ⟨f, hf⟩ : ∃ f : Nat, out[k] = (f : Int) := ⟨out[k].toNat, by omega⟩
  rw [hf] at hr
  have hgk' := hgk.trans hf
  rw [d7, iP (by omega), iP (by omega), iP (by omega), Int.toNat_natCast k, hgk', iP (by omega), iP (by omega), Int.toNat_natCast f, inc k (by omega)]
  obtain ⟨o1, q1, q2, q3, q4⟩ := uM p hg f (by omega) out (out.length : Int) (k : Int) (List.getD p.funcs f []).length 0 o (by omega) ho
  rw [show ((0 : Nat) : Int) = 0 from rfl] at q1
  rw [bind_some q1]
  have htk : out.take (k + 1) = out.take k ++ [(f : Int)] := by rw [← List.take_append_getElem hlt, hf]
  have hnew : (f : Int) ∉ out.take k := fun hin => by
   obtain ⟨i, i1, i2, i3⟩ := pd hin
   have e1 : out[i] = out[k] := by
    rw [hf, ← i3]; simp [List.getD, i2]
   have := (List.getElem_inj ht.nd).1 e1
   omega
  refine uN p hg out ht m (k + 1) o1 (by omega) q2 (fun g hgm b => ?_) fun g hgm => ?_
  ·rw [htk, List.mem_append, List.mem_singleton] at hgm
   by_cases hgf : g = f
   ·subst hgf
    rw [q4, h2 g hnew]
    simp only [BitVec.getLsbD_zero, Bool.false_eq_true, false_or]
    constructor
    ·rintro ⟨j, _, j2, ⟨j3, j4⟩ | j3⟩
     ·have hc := hg.calls g j (by omega) j2 j3
      obtain ⟨c, hcc⟩ : ∃ c : Nat, (List.getD (List.getD p.funcs g []) j ae).arg = (c : Int) := ⟨_, (Int.toNat_of_nonneg hc.1).symm⟩
      rw [hcc, Int.toNat_natCast] at j4
      have e : Edge p.funcs g c := ⟨j, j2, j3, hcc⟩
      have hct := ht.top k hlt c (by rw [hgk', Int.toNat_natCast]; exact e)
      obtain ⟨x, hx1, hx2⟩ := (h1 c hct b).1 j4
      exact ⟨x, .step _ _ _ e hx1, hx2⟩
     ·exact ⟨g, .refl _, j, j2, j3⟩
    ·rintro ⟨x, hx1, hx2⟩
     cases hx1 with
     | refl _ => obtain ⟨j, j1, j2⟩ := hx2; exact ⟨j, Nat.zero_le _, j1, .inr j2⟩
     | step _ c _ e hp =>
      obtain ⟨j, j1, j2, j3⟩ := e
      have hct := ht.top k hlt c (by rw [hgk', Int.toNat_natCast]; exact ⟨j, j1, j2, j3⟩)
      refine ⟨j, Nat.zero_le _, j1, .inl ⟨j2, ?_⟩⟩
      rw [j3, Int.toNat_natCast]
      exact (h1 c hct b).2 ⟨x, hp, hx2⟩
   ·rw [q3 g hgf]
    exact h1 g (hgm.resolve_right (by omega)) b
  ·rw [htk, List.mem_append, List.mem_singleton, not_or] at hgm
   rw [q3 g (by omega)]
   exact h2 g hgm.1
theorem B6 (p : ad) (hg : bo p) (hk : aH p = some (0, 0, 0)) : ∃ o, gz p = some (0, o) ∧ o.length = p.funcs.length ∧ ∀ f, f < p.funcs.length → ∀ b, (List.getD o f 0#32).getLsbD b = true ↔ May p.funcs ofU f b := by
 have hn := hg.funcs.2
 obtain ⟨out, q1, q2⟩ := uL p hg hk
 unfold gz
 rw [bind_some q1, if_neg (show ¬ ((0 : Int) != 0) = true by decide), iP (by omega), if_pos (decide_eq_true (by simp only [aK]; omega)), Int.toNat_natCast]
 obtain ⟨o, g1, g2, g3⟩ := uN p hg out q2 out.length 0 (List.replicate p.funcs.length 0#32) (by omega) (by simp) (fun f hf => by simp at hf) (fun f _ => by
  simp only [List.getD, List.getElem?_replicate]
  split <;> rfl)
 rw [show ((0 : Nat) : Int) = 0 from rfl] at g1
 rw [bind_some g1]
 exact ⟨o, rfl, g2, fun f hf => g3 f (q2.all f hf)⟩
theorem Aw (p : ad) {a b e : Int} (hk : aH p = some (a, b, e)) (he : e ≠ 0) : gz p = some (e, []) := by
 unfold gz
 rw [bind_some (Eg p hk he), if_pos (by simpa using he)]
theorem B7 (p : ad) (hg : bo p) (hk : aH p = some (0, 0, 0)) : ∃ o, eG p = some (0, o) ∧ o.length = p.funcs.length ∧ ∀ f, f < p.funcs.length → ∀ b, (List.getD o f 0#32).getLsbD b = true ↔ May p.funcs ofU f b := by
 obtain ⟨o, q1, q2, q3⟩ := B6 p hg hk
 unfold eG
 rw [bind_some q1]
 exact ⟨o, rfl, q2, q3⟩
theorem Ax (p : ad) {a b e : Int} (hk : aH p = some (a, b, e)) (he : e ≠ 0) : eG p = some (e, []) := by
 unfold eG
 rw [bind_some (Aw p hk he)]
theorem EY {a b : W32} (h : ∀ i, a.getLsbD i = true → b.getLsbD i = true) : ¬ ((a &&& ~~~b) != 0#32) = true := by
 have : a &&& ~~~b = 0#32 := EV fun i hi => by
  rw [BitVec.getLsbD_and, BitVec.getLsbD_not]
  have := h i
  simp only [BitVec.getLsbD_zero, Bool.false_eq_true, iff_false, Bool.and_eq_true, not_and]
  intro h1 _
  rw [this h1]
  decide
 simp [this]
theorem Hz (x : ac) : kC x = some (ofB x) := by
 unfold kC ofB
 by_cases h : x.kind = 5
 ·rw [if_pos (eqT h), if_pos h]
 ·rw [if_neg (eqF h), if_neg h]
theorem uO (p : ad) (hg : bo p) (f : Nat) (hf : f < p.funcs.length) (x1 : List Int) (x7 x8 : Int) : ∀ (m i : Nat) (o : List W32), i + m = (List.getD p.funcs f []).length → o.length = p.funcs.length → ∃ o', bO o x1 p.globals p.locks p.slots p.funcs (f : Int) x7 x8 (List.getD p.funcs f []) ((List.getD p.funcs f []).length : Int) (i : Int) = some o' ∧ o'.length = p.funcs.length ∧ (∀ g, g ≠ f → List.getD o' g 0#32 = List.getD o g 0#32) ∧
  ∀ b, (List.getD o' f 0#32).getLsbD b = true ↔ (List.getD o f 0#32).getLsbD b = true ∨ ∃ j, i ≤ j ∧ j < (List.getD p.funcs f []).length ∧ (((List.getD (List.getD p.funcs f []) j ae).kind = 7 ∧ (List.getD o (List.getD (List.getD p.funcs f []) j ae).arg.toNat 0#32).getLsbD b = true) ∨ (ofB (List.getD (List.getD p.funcs f []) j ae)).getLsbD b = true)
 | 0, i, o, h, ho => by
  rw [bO, iN (by omega)]
  exact ⟨o, rfl, ho, fun g _ => rfl, fun b => ⟨.inl, fun h => h.elim (fun x => x) fun ⟨j, h1, h2, _⟩ => by omega⟩⟩
 | m + 1, i, o, h, ho => by
  have hle := hg.le f
  rw [bO, iP (by omega), iP (by omega), iP (by omega), Int.toNat_natCast i, inc i (by omega)]
  have fin : ∀ (y : W32), (∀ b, y.getLsbD b = true ↔ (((List.getD (List.getD p.funcs f []) i ae).kind = 7 ∧ (List.getD o (List.getD (List.getD p.funcs f []) i ae).arg.toNat 0#32).getLsbD b = true) ∨ (ofB (List.getD (List.getD p.funcs f []) i ae)).getLsbD b = true)) →
    ∃ o', bO (o.set f (List.getD o f 0#32 ||| y)) x1 p.globals p.locks p.slots p.funcs (f : Int) x7 x8 (List.getD p.funcs f []) ((List.getD p.funcs f []).length : Int) ((i + 1 : Nat) : Int) = some o' ∧ o'.length = p.funcs.length ∧ (∀ g, g ≠ f → List.getD o' g 0#32 = List.getD o g 0#32) ∧
    ∀ b, (List.getD o' f 0#32).getLsbD b = true ↔ (List.getD o f 0#32).getLsbD b = true ∨ ∃ j, i ≤ j ∧ j < (List.getD p.funcs f []).length ∧ (((List.getD (List.getD p.funcs f []) j ae).kind = 7 ∧ (List.getD o (List.getD (List.getD p.funcs f []) j ae).arg.toNat 0#32).getLsbD b = true) ∨ (ofB (List.getD (List.getD p.funcs f []) j ae)).getLsbD b = true) := by
   intro y hy
   obtain ⟨o', q1, q2, q3, q4⟩ := uO p hg f hf x1 x7 x8 m (i + 1) (o.set f (List.getD o f 0#32 ||| y)) (by omega) (by simpa using ho)
   refine ⟨o', q1, q2, fun g hgf => by rw [q3 g hgf, ig _ _ _ _ (by omega), if_neg hgf], fun b => ?_⟩
   rw [q4, ig _ _ _ _ (by omega), if_pos rfl, BitVec.getLsbD_or, Bool.or_eq_true, hy]
   have hsame : ∀ j, j < (List.getD p.funcs f []).length → (List.getD (List.getD p.funcs f []) j ae).kind = 7 → List.getD (o.set f (List.getD o f 0#32 ||| y)) (List.getD (List.getD p.funcs f []) j ae).arg.toNat 0#32 = List.getD o (List.getD (List.getD p.funcs f []) j ae).arg.toNat 0#32 := fun j hj hk => by
    rw [ig _ _ _ _ (by omega), if_neg]
    intro e
    have hc := hg.calls f j hf hj hk
    exact hg.acyc f j hf hj ⟨hk, f, by omega, .refl _⟩
   constructor
   ·rintro ((h1 | h1) | ⟨j, h1, h2, h3⟩)
    ·exact .inl h1
    ·exact .inr ⟨i, Nat.le_refl _, by omega, h1⟩
    ·refine .inr ⟨j, by omega, h2, h3.imp (fun h4 => ⟨h4.1, ?_⟩) fun x => x⟩
     rw [← hsame j h2 h4.1]; exact h4.2
   ·rintro (h1 | ⟨j, h1, h2, h3⟩)
    ·exact .inl (.inl h1)
    ·rcases Nat.eq_or_lt_of_le h1 with rfl | h5
     ·exact .inl (.inr h3)
     ·refine .inr ⟨j, h5, h2, h3.imp (fun h4 => ⟨h4.1, ?_⟩) fun x => x⟩
      rw [hsame j h2 h4.1]; exact h4.2
  by_cases hk : (List.getD (List.getD p.funcs f []) i ae).kind = 7
  ·have hc := hg.calls f i hf (by omega) hk
   rw [if_pos (eqT hk), iP (by omega), iP (by omega), if_pos (decide_eq_true hc.1), iP (by omega), Int.toNat_natCast f]
   exact fin _ fun b => by rw [H9 hk]; simp only [hk, true_and, BitVec.getLsbD_zero, Bool.false_eq_true, or_false]
  ·rw [if_neg (eqF hk), iP (by omega), iP (by omega), bind_some (Hz _), Int.toNat_natCast f]
   exact fin _ fun b => by simp only [hk, false_and, false_or]
theorem uP (p : ad) (hg : bo p) (out : List Int) (ht : Hx p.funcs out) : ∀ (m k : Nat) (o : List W32), k + m = out.length → o.length = p.funcs.length → (∀ f : Nat, (f : Int) ∈ out.take k → ∀ b, (List.getD o f 0#32).getLsbD b = true ↔ May p.funcs ofB f b) → (∀ f : Nat, (f : Int) ∉ out.take k → List.getD o f 0#32 = 0#32) →
  ∃ o', cW o out p.globals p.locks p.slots p.funcs (out.length : Int) (k : Int) = some o' ∧ o'.length = p.funcs.length ∧ ∀ f : Nat, (f : Int) ∈ out → ∀ b, (List.getD o' f 0#32).getLsbD b = true ↔ May p.funcs ofB f b
 | 0, k, o, h, ho, h1, h2 => by
  rw [cW, iN (by omega)]
  rw [List.take_of_length_le (by omega)] at h1
  exact ⟨o, rfl, ho, h1⟩
 | m + 1, k, o, h, ho, h1, h2 => by
  have hn := hg.funcs.2
  have hol : out.length ≤ p.funcs.length := uJ _ _ ht.nd ht.rng
  have hlt : k < out.length := by omega
  have hgk : List.getD out k 0 = out[k] := by simp [List.getD, hlt]
  have hr := ht.rng _ (List.getElem_mem hlt)
  obtain ⟨f, hf⟩ : ∃ f : Nat, out[k] = (f : Int) := ⟨out[k].toNat, by omega⟩
  rw [hf] at hr
  have hgk' := hgk.trans hf
  rw [cW, iP (by omega), iP (by omega), iP (by omega), Int.toNat_natCast k, hgk', iP (by omega), iP (by omega), Int.toNat_natCast f, inc k (by omega)]
  obtain ⟨o1, q1, q2, q3, q4⟩ := uO p hg f (by omega) out (out.length : Int) (k : Int) (List.getD p.funcs f []).length 0 o (by omega) ho
  rw [show ((0 : Nat) : Int) = 0 from rfl] at q1
  rw [bind_some q1]
  have htk : out.take (k + 1) = out.take k ++ [(f : Int)] := by rw [← List.take_append_getElem hlt, hf]
  have hnew : (f : Int) ∉ out.take k := fun hin => by
   obtain ⟨i, i1, i2, i3⟩ := pd hin
   have e1 : out[i] = out[k] := by
    rw [hf, ← i3]; simp [List.getD, i2]
   have := (List.getElem_inj ht.nd).1 e1
   omega
  refine uP p hg out ht m (k + 1) o1 (by omega) q2 (fun g hgm b => ?_) fun g hgm => ?_
  ·rw [htk, List.mem_append, List.mem_singleton] at hgm
   by_cases hgf : g = f
   ·subst hgf
    rw [q4, h2 g hnew]
    simp only [BitVec.getLsbD_zero, Bool.false_eq_true, false_or]
    constructor
    ·rintro ⟨j, _, j2, ⟨j3, j4⟩ | j3⟩
     ·have hc := hg.calls g j (by omega) j2 j3
      obtain ⟨c, hcc⟩ : ∃ c : Nat, (List.getD (List.getD p.funcs g []) j ae).arg = (c : Int) := ⟨_, (Int.toNat_of_nonneg hc.1).symm⟩
      rw [hcc, Int.toNat_natCast] at j4
      have e : Edge p.funcs g c := ⟨j, j2, j3, hcc⟩
      have hct := ht.top k hlt c (by rw [hgk', Int.toNat_natCast]; exact e)
      obtain ⟨x, hx1, hx2⟩ := (h1 c hct b).1 j4
      exact ⟨x, .step _ _ _ e hx1, hx2⟩
     ·exact ⟨g, .refl _, j, j2, j3⟩
    ·rintro ⟨x, hx1, hx2⟩
     cases hx1 with
     | refl _ => obtain ⟨j, j1, j2⟩ := hx2; exact ⟨j, Nat.zero_le _, j1, .inr j2⟩
     | step _ c _ e hp =>
      obtain ⟨j, j1, j2, j3⟩ := e
      have hct := ht.top k hlt c (by rw [hgk', Int.toNat_natCast]; exact ⟨j, j1, j2, j3⟩)
      refine ⟨j, Nat.zero_le _, j1, .inl ⟨j2, ?_⟩⟩
      rw [j3, Int.toNat_natCast]
      exact (h1 c hct b).2 ⟨x, hp, hx2⟩
   ·rw [q3 g hgf]
    exact h1 g (hgm.resolve_right (by omega)) b
  ·rw [htk, List.mem_append, List.mem_singleton, not_or] at hgm
   rw [q3 g (by omega)]
   exact h2 g hgm.1
theorem B9 (p : ad) (hg : bo p) (hk : aH p = some (0, 0, 0)) : ∃ o, iA p = some (0, o) ∧ o.length = p.funcs.length ∧ ∀ f, f < p.funcs.length → ∀ b, (List.getD o f 0#32).getLsbD b = true ↔ May p.funcs ofB f b := by
 have hn := hg.funcs.2
 obtain ⟨out, q1, q2⟩ := uL p hg hk
 unfold iA
 rw [bind_some q1, if_neg (show ¬ ((0 : Int) != 0) = true by decide), iP (by omega), if_pos (decide_eq_true (by simp only [aK]; omega)), Int.toNat_natCast]
 obtain ⟨o, g1, g2, g3⟩ := uP p hg out q2 out.length 0 (List.replicate p.funcs.length 0#32) (by omega) (by simp) (fun f hf => by simp at hf) (fun f _ => by
  simp only [List.getD, List.getElem?_replicate]
  split <;> rfl)
 rw [show ((0 : Nat) : Int) = 0 from rfl] at g1
 rw [bind_some g1]
 exact ⟨o, rfl, g2, fun f hf => g3 f (q2.all f hf)⟩
theorem rU (o : List W32) (ho : o.length ≤ 32) : ∀ (m f : Nat) (x : W32), f + m = o.length → ∃ x', dj o x (o.length : Int) (f : Int) = some x' ∧ ∀ b, x'.getLsbD b = true ↔ x.getLsbD b = true ∨ (f ≤ b ∧ b < o.length ∧ List.getD o b 0#32 ≠ 0#32)
 | 0, f, x, h => by
  rw [dj, iN (by omega)]
  exact ⟨x, rfl, fun b => ⟨.inl, fun h => h.elim (fun x => x) fun ⟨h1, h2, _⟩ => by omega⟩⟩
 | m + 1, f, x, h => by
  rw [dj, iP (by omega), iP (by omega), iP (by omega), Int.toNat_natCast, inc f (by omega)]
  have hlt : (0#32 < List.getD o f 0#32) ↔ List.getD o f 0#32 ≠ 0#32 := by
   rw [BitVec.lt_def]
   constructor
   ·intro h1 e; rw [e] at h1; exact absurd h1 (by decide)
   ·intro h1
    have : (List.getD o f 0#32).toNat ≠ 0 := fun e => h1 (BitVec.eq_of_toNat_eq (by simpa using e))
    show (0#32).toNat < _
    rw [show (0#32).toNat = 0 from rfl]
    omega
  by_cases h0 : List.getD o f 0#32 ≠ 0#32
  ·rw [if_pos (decide_eq_true (hlt.2 h0)), bind_some (fB _)]
   obtain ⟨x', q1, q2⟩ := rU o ho m (f + 1) (x ||| one (f : Int)) (by omega)
   refine ⟨x', q1, fun b => ?_⟩
   rw [q2, BitVec.getLsbD_or, Bool.or_eq_true, lP]
   constructor
   ·rintro ((h1 | ⟨h1, _⟩) | ⟨h1, h2, h3⟩)
    ·exact .inl h1
    ·have : b = f := by omega
     subst this
     exact .inr ⟨Nat.le_refl _, by omega, h0⟩
    ·exact .inr ⟨by omega, h2, h3⟩
   ·rintro (h1 | ⟨h1, h2, h3⟩)
    ·exact .inl (.inl h1)
    ·rcases Nat.eq_or_lt_of_le h1 with rfl | h4
     ·exact .inl (.inr ⟨rfl, by omega⟩)
     ·exact .inr ⟨h4, h2, h3⟩
  ·rw [if_neg (fun h1 => h0 (hlt.1 (of_decide_eq_true h1)))]
   obtain ⟨x', q1, q2⟩ := rU o ho m (f + 1) x (by omega)
   refine ⟨x', q1, fun b => ?_⟩
   rw [q2]
   constructor
   ·rintro (h1 | ⟨h1, h2, h3⟩)
    ·exact .inl h1
    ·exact .inr ⟨by omega, h2, h3⟩
   ·rintro (h1 | ⟨h1, h2, h3⟩)
    ·exact .inl h1
    ·rcases Nat.eq_or_lt_of_le h1 with rfl | h4
     ·exact absurd h3 h0
     ·exact .inr ⟨h4, h2, h3⟩
def Ca (fs : FS) (f : Nat) : Prop := ∃ g, oJ fs f g ∧ ∃ j, j < (List.getD fs g []).length ∧ (List.getD (List.getD fs g []) j ae).kind = 5
theorem Iu {fs : FS} {f b : Nat} (h : May fs ofB f b) : Ca fs f := by
 obtain ⟨g, h1, j, h2, h3⟩ := h
 refine ⟨g, h1, j, h2, ?_⟩
 unfold ofB at h3
 split at h3
 ·assumption
 ·simp at h3
theorem Ia {fs : FS} {f : Nat} (h : Ca fs f) : May fs ofB f 0 := by
 obtain ⟨g, h1, j, h2, h3⟩ := h
 refine ⟨g, h1, j, h2, ?_⟩
 unfold ofB
 rw [if_pos h3]
 decide
theorem yh (p : ad) (hg : bo p) (hk : aH p = some (0, 0, 0)) : ∃ x, dJ p = some (x, 0) ∧ ∀ b, x.getLsbD b = true ↔ b < p.funcs.length ∧ Ca p.funcs b := by
 have hn := hg.funcs.2
 obtain ⟨o, q1, q2, q3⟩ := B9 p hg hk
 obtain ⟨x, g1, g2⟩ := rU o (by omega) o.length 0 0#32 (by omega)
 rw [show ((0 : Nat) : Int) = 0 from rfl] at g1
 unfold dJ
 rw [bind_some q1, if_neg (show ¬ ((0 : Int) != 0) = true by decide), bind_some g1]
 refine ⟨x, rfl, fun b => ?_⟩
 rw [g2]
 constructor
 ·rintro (h1 | ⟨_, h2, h3⟩)
  ·simp at h1
  ·obtain ⟨c, hc⟩ := kq.1 h3
   exact ⟨by omega, Iu ((q3 b (by omega) c).1 hc)⟩
 ·rintro ⟨h1, h2⟩
  exact .inr ⟨Nat.zero_le _, by omega, kq.2 ⟨0, (q3 b h1 0).2 (Ia h2)⟩⟩
def Ib (fs : FS) (f : Nat) : Prop := ∃ g, g < fs.length ∧ ∃ j, j < (List.getD fs g []).length ∧ (List.getD (List.getD fs g []) j ae).kind = 5 ∧ (List.getD (List.getD fs g []) j ae).arg = (f : Int)
theorem Ay (fs : FS) (hn : fs.length ≤ 65536) (hlen : ∀ f, (List.getD fs f []).length ≤ 65536) : ∀ (m i : Nat) (x : W32), i + m = fs.length → ∃ x', d8 x fs (fs.length : Int) (i : Int) = some x' ∧ ∀ b, x'.getLsbD b = true ↔ x.getLsbD b = true ∨ (b < 32 ∧ ∃ g, i ≤ g ∧ g < fs.length ∧ ∃ j, j < (List.getD fs g []).length ∧ (List.getD (List.getD fs g []) j ae).kind = 5 ∧ (List.getD (List.getD fs g []) j ae).arg = (b : Int))
 | 0, i, x, h => by
  rw [d8, iN (by omega)]
  exact ⟨x, rfl, fun b => ⟨.inl, fun h => h.elim (fun x => x) fun ⟨_, g, h1, h2, _⟩ => by omega⟩⟩
 | m + 1, i, x, h => by
  obtain ⟨y, q1, q2⟩ := Au (List.getD fs i []) 5 (hlen i)
  rw [d8, iP (by omega), iP (by omega), iP (by omega), Int.toNat_natCast, bind_some q1, inc i (by omega)]
  obtain ⟨x', g1, g2⟩ := Ay fs hn hlen m (i + 1) (x ||| y) (by omega)
  refine ⟨x', g1, fun b => ?_⟩
  rw [g2, BitVec.getLsbD_or, Bool.or_eq_true, q2]
  constructor
  ·rintro ((h1 | ⟨h1, h2⟩) | ⟨h1, g, h2, h3⟩)
   ·exact .inl h1
   ·exact .inr ⟨h1, i, Nat.le_refl _, by omega, h2⟩
   ·exact .inr ⟨h1, g, by omega, h3⟩
  ·rintro (h1 | ⟨h1, g, h2, h3, h4⟩)
   ·exact .inl (.inl h1)
   ·rcases Nat.eq_or_lt_of_le h2 with rfl | h5
    ·exact .inl (.inr ⟨h1, h4⟩)
    ·exact .inr ⟨h1, g, h5, h3, h4⟩
theorem EZ (p : ad) (hg : bo p) : ∃ x, gA p = some x ∧ ∀ b, b < 32 → (x.getLsbD b = true ↔ Ib p.funcs b) := by
 have hn := hg.funcs.2
 obtain ⟨x, q1, q2⟩ := Ay p.funcs (by omega) (fun f => by have := hg.le f; omega) p.funcs.length 0 0#32 (by omega)
 rw [show ((0 : Nat) : Int) = 0 from rfl] at q1
 unfold gA
 rw [bind_some q1]
 refine ⟨x, rfl, fun b hb => ?_⟩
 rw [q2]
 constructor
 ·rintro (h1 | ⟨_, g, _, h2, h3⟩)
  ·simp at h1
  ·exact ⟨g, h2, h3⟩
 ·rintro ⟨g, h2, h3⟩
  exact .inr ⟨hb, g, Nat.zero_le _, h2, h3⟩
abbrev nde (p : ad) (f i : Nat) : ac := List.getD (List.getD p.funcs f []) i ae
abbrev sec (l : List ab) (f : Nat) : ab := List.getD l f aa
abbrev hld (l : List ab) (f i : Nat) : W32 := List.getD (sec l f).held i 0#32
def bF (a b : W32) : Bool := (a &&& ~~~b) == 0#32
theorem ey {a b : W32} : bF a b = true ↔ ∀ i, a.getLsbD i = true → b.getLsbD i = true := by
 unfold bF
 rw [beq_iff_eq]
 constructor
 ·intro h i hi
  have h1 := congrArg (fun v => BitVec.getLsbD v i) h
  have hlt := Hu hi
  simp only [BitVec.getLsbD_and, BitVec.getLsbD_not, hlt, decide_true, Bool.true_and, BitVec.getLsbD_zero, hi] at h1
  simpa using h1
 ·intro h
  have := EY h
  simpa using this
theorem fd (a b : W32) : cO a b = some (bF a b) := rfl
def Shp (p : ad) (l : List ab) : Prop := l.length = p.funcs.length ∧ ∀ f, f < p.funcs.length → (sec l f).held.length = (List.getD p.funcs f []).length ∧ (sec l f).live.length = (List.getD p.funcs f []).length
theorem neT {a b : Int} (h : a ≠ b) : ((a : Int) != b) = true := by simpa using h
theorem neF {a b : Int} (h : a = b) : ¬ ((a : Int) != b) = true := by simpa using h
theorem uQ (p : ad) (l : List ab) (hl : l.length = p.funcs.length) (hn : p.funcs.length ≤ 65536) : ∀ (m i : Nat), i + m = l.length → ∃ b, b9 p.globals p.locks p.slots p.funcs l (l.length : Int) (i : Int) = some (if b = true then .x1 else .x0 false) ∧ (b = true ↔ ∀ f, i ≤ f → f < p.funcs.length → (sec l f).held.length = (List.getD p.funcs f []).length ∧ (sec l f).live.length = (List.getD p.funcs f []).length)
 | 0, i, h => by
  rw [b9, iN (by omega)]
  exact ⟨true, rfl, ⟨fun _ f h1 h2 => by omega, fun _ => rfl⟩⟩
 | m + 1, i, h => by
  rw [b9, iP (by omega), iP (by omega), iP (by omega), iP (by omega), Int.toNat_natCast i, inc i (by omega)]
  by_cases h1 : (List.getD l i aa).held.length = (List.getD p.funcs i []).length
  ·by_cases h2 : (List.getD l i aa).live.length = (List.getD p.funcs i []).length
   ·rw [if_neg (neF (by omega)), if_neg (neF (by omega))]
    obtain ⟨b, q2, q3⟩ := uQ p l hl hn m (i + 1) (by omega)
    refine ⟨b, q2, ?_⟩
    rw [q3]
    constructor
    ·intro h3 f h4 h5
     rcases Nat.eq_or_lt_of_le h4 with rfl | h6
     ·exact ⟨h1, h2⟩
     ·exact h3 f h6 h5
    ·exact fun h3 f h4 h5 => h3 f (by omega) h5
   ·rw [if_neg (neF (by omega)), if_pos (neT (by omega))]
    exact ⟨false, rfl, ⟨(fun h => by cases h), fun h => absurd (h i (Nat.le_refl _) (by omega)).2 h2⟩⟩
  ·rw [if_pos (neT (by omega))]
   exact ⟨false, rfl, ⟨(fun h => by cases h), fun h => absurd (h i (Nat.le_refl _) (by omega)).1 h1⟩⟩
theorem yi (p : ad) (l : List ab) (hn : p.funcs.length ≤ 65536) : ∃ b, dK p l = some b ∧ True ∧ (b = true ↔ Shp p l) := by
 unfold dK Shp
 by_cases hl : l.length = p.funcs.length
 ·rw [if_neg (neF (by rw [hl]))]
  obtain ⟨b, q1, q3⟩ := uQ p l hl hn l.length 0 (by omega)
  rw [show ((0 : Nat) : Int) = 0 from rfl] at q1
  rw [bind_some q1]
  refine ⟨b, ?_, trivial, ?_⟩
  ·cases b <;> rfl
  ·rw [q3]
   exact ⟨fun h => ⟨hl, fun f hf => h f (Nat.zero_le _) hf⟩, fun h f _ hf => h.2 f hf⟩
 ·rw [if_pos (neT (by omega))]
  exact ⟨false, rfl, trivial, ⟨(fun h => by cases h), fun h => absurd h.1 hl⟩⟩
def bhd (u : List W32) (l : List ab) (x : ac) (h : W32) : W32 :=
 if x.kind = 3 then h ||| one x.arg else if x.kind = 4 then h &&& ~~~(one x.arg) else if x.kind = 7 then (h &&& ~~~(List.getD u x.arg.toNat 0#32)) ||| (List.getD l x.arg.toNat aa).exit else h
theorem Eh (c : bC) (x : ac) (h : W32) (hx : x.kind = 7 → 0 ≤ x.arg ∧ x.arg < c.unlocks.length ∧ x.arg < c.l.length) : dF c x h = some (bhd c.unlocks c.l x h) := by
 unfold dF bhd
 by_cases h3 : x.kind = 3
 ·rw [if_pos (eqT h3), if_pos h3, bind_some (fB _)]
 ·rw [if_neg (eqF h3), if_neg h3]
  by_cases h4 : x.kind = 4
  ·rw [if_pos (eqT h4), if_pos h4, bind_some (fB _)]
  ·rw [if_neg (eqF h4), if_neg h4]
   by_cases h7 : x.kind = 7
   ·obtain ⟨a1, a2, a3⟩ := hx h7
    rw [if_pos (eqT h7), if_pos h7, if_pos (decide_eq_true a1), if_pos (decide_eq_true a2), if_pos (decide_eq_true a3)]
   ·rw [if_neg (eqF h7), if_neg h7]
theorem pe {js : List Int} {k : Nat} (hk : k < js.length) (q : Int → Bool) : (js.drop k).all q = (q js[k] && (js.drop (k + 1)).all q) := by
 rw [List.drop_eq_getElem_cons hk, List.all_cons]
theorem C9 (p : ad) (l : List ab) (u : List W32) (fm : W32) (f : Nat) (hf : f < l.length) (x : ac) (h : W32) (hx : x.kind = 7 → 0 ≤ x.arg ∧ x.arg < u.length ∧ x.arg < l.length) (js : List Int) (hjl : js.length ≤ 2) (hj : ∀ y ∈ js, 0 ≤ y ∧ y < ((List.getD l f aa).held.length : Int)) :
  ∀ (m k : Nat), k + m = js.length → aT js p.globals p.locks p.slots p.funcs l u fm x.kind x.arg x.next x.alt (f : Int) h (js.length : Int) (k : Int) = some (if (js.drop k).all (fun y => bF (hld l f y.toNat) (bhd u l x h)) = true then .x1 else .x0 3)
 | 0, k, hk => by
  rw [aT, iN (by omega), List.drop_eq_nil_of_le (by omega)]
  rfl
 | m + 1, k, hk => by
  have hlt : k < js.length := by omega
  have hg : List.getD js k 0 = js[k] := by simp [List.getD, hlt]
  have hr := hj _ (List.getElem_mem hlt)
  have eb : dF (bC.mk (ad.mk p.globals p.locks p.slots p.funcs) l u fm) (ac.mk x.kind x.arg x.next x.alt) h = some (bhd u l x h) := Eh ⟨p, l, u, fm⟩ x h hx
  rw [aT, iP (by omega), iP (by omega), iP (by omega), iP (by omega), iP (by omega), Int.toNat_natCast k, hg, if_pos (decide_eq_true hr.1), Int.toNat_natCast f, if_pos (decide_eq_true hr.2), bind_some eb, bind_some (fd _ _), inc k (by omega), C9 p l u fm f hf x h hx js hjl hj m (k + 1) (by omega), pe hlt]
  cases hs : bF (List.getD (List.getD l f aa).held js[k].toNat 0#32) (bhd u l x h) with
  | false => rfl
  | true => rfl
def jz (p : ad) (l : List ab) (u : List W32) (f i : Nat) : Int :=
 if (nde p f i).kind = 7 ∧ bF (sec l (nde p f i).arg.toNat).entry (hld l f i) = false then 5
 else if (nde p f i).kind = 9 ∧ bF (sec l f).exit (hld l f i) = false then 4
 else if (succ (nde p f i)).all (fun y => bF (hld l f y.toNat) (bhd u l (nde p f i) (hld l f i))) = true then 0 else 3
theorem Da {p : ad} {l : List ab} {u : List W32} {f i : Nat} (h : (nde p f i).kind = 7) (h2 : ¬ bF (sec l (nde p f i).arg.toNat).entry (hld l f i) = true) : jz p l u f i = 5 := if_pos ⟨h, by simpa using h2⟩
theorem Db {p : ad} {l : List ab} {u : List W32} {f i : Nat} (h : (nde p f i).kind = 9) (h2 : ¬ bF (sec l f).exit (hld l f i) = true) : jz p l u f i = 4 := by
 unfold jz
 rw [if_neg (by rintro ⟨h3, _⟩; exact absurd (h.symm.trans h3) (by decide)), if_pos ⟨h, by simpa using h2⟩]
theorem qh {p : ad} {l : List ab} {u : List W32} {f i : Nat} (h : (nde p f i).kind = 7 → bF (sec l (nde p f i).arg.toNat).entry (hld l f i) = true) (h2 : (nde p f i).kind = 9 → bF (sec l f).exit (hld l f i) = true) : jz p l u f i = if (succ (nde p f i)).all (fun y => bF (hld l f y.toNat) (bhd u l (nde p f i) (hld l f i))) = true then 0 else 3 := by
 unfold jz
 rw [if_neg (by rintro ⟨h3, h4⟩; rw [h h3] at h4; cases h4), if_neg (by rintro ⟨h3, h4⟩; rw [h2 h3] at h4; cases h4)]
theorem Ei (p : ad) (hg : bo p) (l : List ab) (hs : Shp p l) (u : List W32) (hu : u.length = p.funcs.length) (fm : W32) (f i : Nat) (hf : f < p.funcs.length) (hi : i < (List.getD p.funcs f []).length) : eD ⟨p, l, u, fm⟩ (f : Int) (i : Int) = some (jz p l u f i) := by
 have hl := hs.1
 have hh : (List.getD l f aa).held.length = (List.getD p.funcs f []).length := (hs.2 f hf).1
 have hok := hg.node f i hf hi
 have hc := hok.call
 have hcn : (nde p f i).kind = 7 → 0 ≤ (nde p f i).arg ∧ (nde p f i).arg < p.funcs.length := hok.call
 have hle := hg.le f
 have hjr := oc hok (by omega)
 have h7 := C9 p l u fm f (by omega) (nde p f i) (hld l f i) (fun hk => by have := hcn hk; omega) (succ (nde p f i)) (ld _) (fun y hy => by have := hjr y hy; omega) (succ (nde p f i)).length 0 (by omega)
 rw [show ((0 : Nat) : Int) = 0 from rfl, List.drop_zero] at h7
 unfold eD
 dsimp only
 rw [iP (by omega), iP (by omega), iP (by omega), Int.toNat_natCast f, iP (by omega), iP (by omega), iP (by omega), Int.toNat_natCast i]
 by_cases hk7 : (List.getD (List.getD p.funcs f []) i ae).kind = 7
 ·have ha := hc hk7
  rw [if_pos (eqT hk7), if_pos (decide_eq_true ha.1), iP (by omega), bind_some (fd _ _)]
  by_cases he : bF (List.getD l (List.getD (List.getD p.funcs f []) i ae).arg.toNat aa).entry (List.getD (List.getD l f aa).held i 0#32) = true
  ·rw [he, if_neg (by decide), if_neg (eqF (by omega)), bind_some (fO _), bind_some h7, qh (fun _ => he) (fun h => absurd (hk7.symm.trans h) (by decide))]
   by_cases ha : (succ (nde p f i)).all (fun y => bF (hld l f y.toNat) (bhd u l (nde p f i) (hld l f i))) = true
   ·rw [if_pos ha, if_pos ha]
   ·rw [if_neg ha, if_neg ha]
  ·rw [if_pos (by simpa using he), Da hk7 he]
 ·rw [if_neg (eqF hk7)]
  by_cases hk9 : (List.getD (List.getD p.funcs f []) i ae).kind = 9
  ·rw [if_pos (eqT hk9), bind_some (fd _ _)]
   by_cases he : bF (List.getD l f aa).exit (List.getD (List.getD l f aa).held i 0#32) = true
   ·rw [he, if_neg (by decide), bind_some (fO _), bind_some h7, qh (fun h => absurd h hk7) (fun _ => he)]
    by_cases ha : (succ (nde p f i)).all (fun y => bF (hld l f y.toNat) (bhd u l (nde p f i) (hld l f i))) = true
    ·rw [if_pos ha, if_pos ha]
    ·rw [if_neg ha, if_neg ha]
   ·rw [if_pos (by simpa using he), Db hk9 he]
  ·rw [if_neg (eqF hk9), bind_some (fO _), bind_some h7, qh (fun h => absurd h hk7) (fun h => absurd h hk9)]
   by_cases ha : (succ (nde p f i)).all (fun y => bF (hld l f y.toNat) (bhd u l (nde p f i) (hld l f i))) = true
   ·rw [if_pos ha, if_pos ha]
   ·rw [if_neg ha, if_neg ha]
def uR (p : ad) (l : List ab) (u : List W32) (f i : Nat) : Option Int := if jz p l u f i = 0 then none else some (jz p l u f i)
theorem Dc (p : ad) (hg : bo p) (l : List ab) (hs : Shp p l) (u : List W32) (hu : u.length = p.funcs.length) (fm : W32) (f : Nat) (hf : f < p.funcs.length) : ∀ (m i : Nat), i + m = (List.getD p.funcs f []).length → aU p.globals p.locks p.slots p.funcs l u fm (f : Int) ((List.getD p.funcs f []).length : Int) (i : Int) = some (match cj (uR p l u f) i m with | some (k, w) => .x0 k w | none => .x1)
 | 0, i, h => by rw [aU, iN (by omega)]; rfl
 | m + 1, i, h => by
  have hle := hg.le f
  have e := Ei p hg l hs u hu fm f i hf (by omega)
  rw [aU, iP (by omega), bind_some (show eD (bC.mk (ad.mk p.globals p.locks p.slots p.funcs) l u fm) (f : Int) (i : Int) = _ from e), inc i (by omega), Dc p hg l hs u hu fm f hf m (i + 1) (by omega), fc]
  unfold uR
  by_cases h0 : jz p l u f i = 0
  ·rw [if_neg (neF h0), if_pos h0]
  ·rw [if_pos (neT h0), if_neg h0]
def qi (p : ad) (l : List ab) (u : List W32) (fm : W32) (f : Nat) : Int × Int :=
 if fm.getLsbD f = true ∧ (sec l f).entry ≠ 0#32 then (-1, 2) else if bF (hld l f 0) (sec l f).entry = false then (-1, 3)
 else match cj (uR p l u f) 0 (List.getD p.funcs f []).length with | some (k, w) => (k, w) | none => (0, 0)
theorem Gt {p : ad} {l : List ab} {u : List W32} {fm : W32} {f : Nat} (h : fm.getLsbD f = true ∧ (sec l f).entry ≠ 0#32) : qi p l u fm f = (-1, 2) := if_pos h
theorem Dd {p : ad} {l : List ab} {u : List W32} {fm : W32} {f : Nat} (h : ¬ (fm.getLsbD f = true ∧ (sec l f).entry ≠ 0#32)) (h2 : ¬ bF (hld l f 0) (sec l f).entry = true) : qi p l u fm f = (-1, 3) := by
 unfold qi
 rw [if_neg h, if_pos (by simpa using h2)]
theorem zm {p : ad} {l : List ab} {u : List W32} {fm : W32} {f : Nat} (h : ¬ (fm.getLsbD f = true ∧ (sec l f).entry ≠ 0#32)) (h2 : bF (hld l f 0) (sec l f).entry = true) : qi p l u fm f = match cj (uR p l u f) 0 (List.getD p.funcs f []).length with | some (k, w) => (k, w) | none => (0, 0) := by
 unfold qi
 rw [if_neg h, if_neg (by rw [h2]; decide)]
theorem Ej (p : ad) (hg : bo p) (l : List ab) (hs : Shp p l) (u : List W32) (hu : u.length = p.funcs.length) (fm : W32) (f : Nat) (hf : f < p.funcs.length) : cQ ⟨p, l, u, fm⟩ (f : Int) = some (qi p l u fm f) := by
 have hl := hs.1
 have hn := hg.funcs.2
 have hh : (List.getD l f aa).held.length = (List.getD p.funcs f []).length := (hs.2 f hf).1
 have hp := (hg.len f hf).1
 have h7 := Dc p hg l hs u hu fm f hf (List.getD p.funcs f []).length 0 (by omega)
 rw [show ((0 : Nat) : Int) = 0 from rfl] at h7
 unfold cQ
 dsimp only
 rw [iP (by omega), iP (by omega), bind_some (show cH fm (f : Int) = some (fm.getLsbD f) by rw [mQ, if_pos (by omega), Int.toNat_natCast]), Int.toNat_natCast f]
 by_cases hfm : fm.getLsbD f = true
 ·rw [if_pos hfm]
  by_cases he : (List.getD l f aa).entry = 0#32
  ·rw [if_neg (by simpa using he), iP (by omega), bind_some (fd _ _)]
   by_cases hsb : bF (List.getD (List.getD l f aa).held 0 0#32) (List.getD l f aa).entry = true
   ·rw [if_neg (by rw [hsb]; decide), iP (by omega), bind_some h7, zm (fun h => h.2 he) hsb]
    cases cj (uR p l u f) 0 (List.getD p.funcs f []).length with
    | some x => rfl
    | none => rfl
   ·rw [if_pos (by simpa using hsb), Dd (fun h => h.2 he) hsb]
  ·rw [if_pos (by simpa using he), Gt ⟨hfm, he⟩]
 ·rw [if_neg hfm, iP (by omega), bind_some (fd _ _)]
  by_cases hsb : bF (List.getD (List.getD l f aa).held 0 0#32) (List.getD l f aa).entry = true
  ·rw [if_neg (by rw [hsb]; decide), iP (by omega), bind_some h7, zm (fun h => hfm h.1) hsb]
   cases cj (uR p l u f) 0 (List.getD p.funcs f []).length with
   | some x => rfl
   | none => rfl
  ·rw [if_pos (by simpa using hsb), Dd (fun h => hfm h.1) hsb]
def Az (p : ad) (l : List ab) (u : List W32) (fm : W32) (f : Nat) : Option (Int × Int) := if (qi p l u fm f).2 = 0 then none else some (qi p l u fm f)
theorem De (p : ad) (hg : bo p) (l : List ab) (hs : Shp p l) (u : List W32) (hu : u.length = p.funcs.length) (fm : W32) : ∀ (m f : Nat), f + m = l.length → eQ u 0 0 0 p.globals p.locks p.slots p.funcs l fm (l.length : Int) (f : Int) = some (match cj (Az p l u fm) f m with | some (f, (k, w)) => .x0 f k w 0 | none => .x1)
 | 0, f, h => by rw [eQ, iN (by omega)]; rfl
 | m + 1, f, h => by
  have hl := hs.1
  have hn := hg.funcs.2
  have e := Ej p hg l hs u hu fm f (by omega)
  rw [eQ, iP (by omega), bind_some (show cQ (bC.mk (ad.mk p.globals p.locks p.slots p.funcs) l u fm) (f : Int) = _ from e), inc f (by omega), De p hg l hs u hu fm m (f + 1) (by omega), fc]
  unfold Az
  by_cases h0 : (qi p l u fm f).2 = 0
  ·rw [if_neg (neF h0), if_pos h0]
  ·rw [if_pos (neT h0), if_neg h0]
def zn (p : ad) (l : List ab) (u : List W32) (fm : W32) : aA := match cj (Az p l u fm) 0 l.length with | some (f, (k, w)) => ⟨f, k, w⟩ | none => ⟨0, 0, 0⟩
theorem jn {β : Type} {q : Nat → Option β} : ∀ {m i : Nat}, (∀ k, i ≤ k → k < i + m → q k = none) → cj q i m = none
 | 0, i, h => rfl
 | m + 1, i, h => by
  rw [fc, h i (Nat.le_refl _) (by omega)]
  exact jn fun k h1 h2 => h k (by omega) (by omega)
def E0 (p : ad) (l : List ab) (u : List W32) (fm : W32) : Prop := ∀ f, f < p.funcs.length → ¬ (fm.getLsbD f = true ∧ (sec l f).entry ≠ 0#32) ∧ bF (hld l f 0) (sec l f).entry = true ∧ ∀ i, i < (List.getD p.funcs f []).length → jz p l u f i = 0
theorem Df {p : ad} {l : List ab} {u : List W32} {fm : W32} (hl : l.length = p.funcs.length) (h : E0 p l u fm) : zn p l u fm = ⟨0, 0, 0⟩ := by
 unfold zn
 rw [jn]
 intro f _ hf
 obtain ⟨h1, h2, h3⟩ := h f (by omega)
 have : cj (uR p l u f) 0 (List.getD p.funcs f []).length = none := jn fun i _ hi => if_pos (h3 i (by omega))
 unfold Az
 rw [zm h1 h2, this]
 rfl
theorem Cb {p : ad} {l : List ab} {u : List W32} {f i : Nat} (h : jz p l u f i = 0) : ((nde p f i).kind = 7 → bF (sec l (nde p f i).arg.toNat).entry (hld l f i) = true) ∧ ((nde p f i).kind = 9 → bF (sec l f).exit (hld l f i) = true) ∧ (succ (nde p f i)).all (fun y => bF (hld l f y.toNat) (bhd u l (nde p f i) (hld l f i))) = true := by
 have h7 : (nde p f i).kind = 7 → bF (sec l (nde p f i).arg.toNat).entry (hld l f i) = true := fun hk => by
  cases hs : bF (sec l (nde p f i).arg.toNat).entry (hld l f i) with
  | true => rfl
  | false => rw [Da hk (by rw [hs]; decide)] at h; cases h
 have h9 : (nde p f i).kind = 9 → bF (sec l f).exit (hld l f i) = true := fun hk => by
  cases hs : bF (sec l f).exit (hld l f i) with
  | true => rfl
  | false => rw [Db hk (by rw [hs]; decide)] at h; cases h
 refine ⟨h7, h9, ?_⟩
 rw [qh h7 h9] at h
 split at h
 ·assumption
 ·cases h
abbrev liv (l : List ab) (f i : Nat) : W32 := List.getD (sec l f).live i 0#32
def eW (m : W32) (id : Int) : Bool := if 0 ≤ id ∧ id < 32 then m.getLsbD id.toNat else false
def lbh (x : ac) (live exit : W32) (lost : Int) (bg : Bool) : W32 :=
 if x.kind = 5 then (live ||| one x.alt) ||| (if bg = true ∨ eW live x.alt = true then one lost else 0#32)
 else if x.kind = 6 then live &&& ~~~(one x.arg) else if x.kind = 7 then exit else live
theorem xv (x : ac) (live exit : W32) (lost : Int) (bg : Bool) : jN x live exit lost bg = some (lbh x live exit lost bg) := by
 unfold jN lbh
 by_cases h5 : x.kind = 5
 ·rw [if_pos (eqT h5), if_pos h5, bind_some (fB _)]
  by_cases hb : bg = true
  ·rw [if_pos hb, if_pos (.inl hb), bind_some (fB _)]
  ·rw [if_neg hb, bind_some (show cH live x.alt = some (eW live x.alt) from mQ _ _)]
   by_cases hh : eW live x.alt = true
   ·rw [if_pos hh, if_pos (.inr hh), bind_some (fB _)]
   ·rw [if_neg hh, if_neg (fun h => h.elim hb hh), BitVec.or_zero]
 ·rw [if_neg (eqF h5), if_neg h5]
  by_cases h6 : x.kind = 6
  ·rw [if_pos (eqT h6), if_pos h6, bind_some (fB _)]
  ·rw [if_neg (eqF h6), if_neg h6]
   by_cases h7 : x.kind = 7
   ·rw [if_pos (eqT h7), if_pos h7]
   ·rw [if_neg (eqF h7), if_neg h7]
theorem Dg (p : ad) (l : List ab) (bg : W32) (f : Nat) (hf : f < l.length) (x : ac) (h e : W32) (js : List Int) (hjl : js.length ≤ 2) (hj : ∀ y ∈ js, 0 ≤ y ∧ y < ((List.getD l f aa).live.length : Int)) :
  ∀ (m k : Nat), k + m = js.length → aO js p.globals p.locks p.slots p.funcs l bg x.kind x.arg x.next x.alt (f : Int) h e (js.length : Int) (k : Int) = some (if (js.drop k).all (fun y => bF (lbh x h e p.slots (eW bg x.arg)) (liv l f y.toNat)) = true then .x1 else .x0 6)
 | 0, k, hk => by
  rw [aO, iN (by omega), List.drop_eq_nil_of_le (by omega)]
  rfl
 | m + 1, k, hk => by
  have hlt : k < js.length := by omega
  have hg : List.getD js k 0 = js[k] := by simp [List.getD, hlt]
  have hr := hj _ (List.getElem_mem hlt)
  rw [aO, iP (by omega), iP (by omega), iP (by omega), bind_some (show jG (ad.mk p.globals p.locks p.slots p.funcs) = some p.slots from rfl), bind_some (show cH bg x.arg = some (eW bg x.arg) from mQ _ _), bind_some (show jN (ac.mk x.kind x.arg x.next x.alt) h e p.slots (eW bg x.arg) = some (lbh x h e p.slots (eW bg x.arg)) from xv x h e p.slots (eW bg x.arg)), iP (by omega), iP (by omega), Int.toNat_natCast k, hg, if_pos (decide_eq_true hr.1), Int.toNat_natCast f, if_pos (decide_eq_true hr.2), bind_some (fd _ _), inc k (by omega), Dg p l bg f hf x h e js hjl hj m (k + 1) (by omega), pe hlt]
  cases hs : bF (lbh x h e p.slots (eW bg x.arg)) (List.getD (List.getD l f aa).live js[k].toNat 0#32) with
  | false => rfl
  | true => rfl
def xit (l : List ab) (x : ac) : W32 := if x.kind = 7 then (List.getD l x.arg.toNat aa).liveExit else 0#32
def onL (p : ad) (l : List ab) (bg : W32) (f i : Nat) : Bool := (succ (nde p f i)).all fun y => bF (lbh (nde p f i) (liv l f i) (xit l (nde p f i)) p.slots (eW bg (nde p f i).arg)) (liv l f y.toNat)
def iK (p : ad) (l : List ab) (bg : W32) (f i : Nat) : Int :=
 if (nde p f i).kind = 7 ∧ bF (liv l f i) (sec l (nde p f i).arg.toNat).liveEntry = false then 6
 else if (nde p f i).kind = 9 ∧ bF (liv l f i) (sec l f).liveExit = false then 6
 else if (nde p f i).kind = 5 ∧ eW (sec l (nde p f i).arg.toNat).liveEntry p.slots = false then 7
 else if onL p l bg f i = true then 0 else 6
theorem zo {p : ad} {l : List ab} {bg : W32} {f i : Nat} {e : W32} (hx : xit l (nde p f i) = e) : ((succ (nde p f i)).all fun y => bF (lbh (nde p f i) (liv l f i) e p.slots (eW bg (nde p f i).arg)) (liv l f y.toNat)) = onL p l bg f i := by subst hx; rfl
theorem Dh {p : ad} {l : List ab} {bg : W32} {f i : Nat} (h : (nde p f i).kind = 7) (h2 : ¬ bF (liv l f i) (sec l (nde p f i).arg.toNat).liveEntry = true) : iK p l bg f i = 6 := if_pos ⟨h, by simpa using h2⟩
theorem Di {p : ad} {l : List ab} {bg : W32} {f i : Nat} (h : (nde p f i).kind = 9) (h2 : ¬ bF (liv l f i) (sec l f).liveExit = true) : iK p l bg f i = 6 := by
 unfold iK
 rw [if_neg (by rintro ⟨h3, _⟩; exact absurd (h.symm.trans h3) (by decide)), if_pos ⟨h, by simpa using h2⟩]
theorem Dj {p : ad} {l : List ab} {bg : W32} {f i : Nat} (h : (nde p f i).kind = 5) (h2 : ¬ eW (sec l (nde p f i).arg.toNat).liveEntry p.slots = true) : iK p l bg f i = 7 := by
 unfold iK
 rw [if_neg (by rintro ⟨h3, _⟩; exact absurd (h.symm.trans h3) (by decide)), if_neg (by rintro ⟨h3, _⟩; exact absurd (h.symm.trans h3) (by decide)), if_pos ⟨h, by simpa using h2⟩]
theorem oe {p : ad} {l : List ab} {bg : W32} {f i : Nat} (h7 : (nde p f i).kind = 7 → bF (liv l f i) (sec l (nde p f i).arg.toNat).liveEntry = true) (h9 : (nde p f i).kind = 9 → bF (liv l f i) (sec l f).liveExit = true) (h5 : (nde p f i).kind = 5 → eW (sec l (nde p f i).arg.toNat).liveEntry p.slots = true) : iK p l bg f i = if onL p l bg f i = true then 0 else 6 := by
 unfold iK
 rw [if_neg (by rintro ⟨h3, h4⟩; rw [h7 h3] at h4; cases h4), if_neg (by rintro ⟨h3, h4⟩; rw [h9 h3] at h4; cases h4), if_neg (by rintro ⟨h3, h4⟩; rw [h5 h3] at h4; cases h4)]
theorem Cc {p : ad} {l : List ab} {bg : W32} {f i : Nat} (h : iK p l bg f i = 0) : ((nde p f i).kind = 7 → bF (liv l f i) (sec l (nde p f i).arg.toNat).liveEntry = true) ∧ ((nde p f i).kind = 9 → bF (liv l f i) (sec l f).liveExit = true) ∧ ((nde p f i).kind = 5 → eW (sec l (nde p f i).arg.toNat).liveEntry p.slots = true) ∧ onL p l bg f i = true := by
 have h7 : (nde p f i).kind = 7 → bF (liv l f i) (sec l (nde p f i).arg.toNat).liveEntry = true := fun hk => by
  cases hs : bF (liv l f i) (sec l (nde p f i).arg.toNat).liveEntry with
  | true => rfl
  | false => rw [Dh hk (by rw [hs]; decide)] at h; cases h
 have h9 : (nde p f i).kind = 9 → bF (liv l f i) (sec l f).liveExit = true := fun hk => by
  cases hs : bF (liv l f i) (sec l f).liveExit with
  | true => rfl
  | false => rw [Di hk (by rw [hs]; decide)] at h; cases h
 have h5 : (nde p f i).kind = 5 → eW (sec l (nde p f i).arg.toNat).liveEntry p.slots = true := fun hk => by
  cases hs : eW (sec l (nde p f i).arg.toNat).liveEntry p.slots with
  | true => rfl
  | false => rw [Dj hk (by rw [hs]; decide)] at h; cases h
 refine ⟨h7, h9, h5, ?_⟩
 rw [oe h7 h9 h5] at h
 split at h
 ·assumption
 ·cases h
theorem E1 (p : ad) (hg : bo p) (l : List ab) (hs : Shp p l) (bg : W32) (f i : Nat) (hf : f < p.funcs.length) (hi : i < (List.getD p.funcs f []).length) : eX ⟨p, l, bg⟩ (f : Int) (i : Int) = some (iK p l bg f i) := by
 have hl := hs.1
 have hh : (List.getD l f aa).live.length = (List.getD p.funcs f []).length := (hs.2 f hf).2
 have hok := hg.node f i hf hi
 have hc := hok.call
 have hsp := hok.spawn
 have hle := hg.le f
 have hjr := oc hok (by omega)
 have h15 : ∀ e, aO (succ (nde p f i)) p.globals p.locks p.slots p.funcs l bg (nde p f i).kind (nde p f i).arg (nde p f i).next (nde p f i).alt (f : Int) (liv l f i) e ((succ (nde p f i)).length : Int) 0 = some (if (succ (nde p f i)).all (fun y => bF (lbh (nde p f i) (liv l f i) e p.slots (eW bg (nde p f i).arg)) (liv l f y.toNat)) = true then .x1 else .x0 6) := fun e => by
  have := Dg p l bg f (by omega) (nde p f i) (liv l f i) e (succ (nde p f i)) (ld _) (fun y hy => by have := hjr y hy; omega) (succ (nde p f i)).length 0 (by omega)
  rw [show ((0 : Nat) : Int) = 0 from rfl, List.drop_zero] at this
  exact this
 unfold eX
 dsimp only
 rw [iP (by omega), iP (by omega), iP (by omega), Int.toNat_natCast f, iP (by omega), iP (by omega), iP (by omega), Int.toNat_natCast i]
 by_cases hk7 : (List.getD (List.getD p.funcs f []) i ae).kind = 7
 ·have ha := hc hk7
  have hx : xit l (nde p f i) = (List.getD l (List.getD (List.getD p.funcs f []) i ae).arg.toNat aa).liveExit := if_pos hk7
  rw [if_pos (eqT hk7), if_pos (decide_eq_true ha.1), iP (by omega), bind_some (fd _ _)]
  by_cases he : bF (List.getD (List.getD l f aa).live i 0#32) (List.getD l (List.getD (List.getD p.funcs f []) i ae).arg.toNat aa).liveEntry = true
  ·rw [he, if_neg (by decide), bind_some (fO _), bind_some (h15 _), oe (fun _ => he) (fun h => absurd (hk7.symm.trans h) (by decide)) (fun h => absurd (hk7.symm.trans h) (by decide)), zo hx]
   by_cases ho : onL p l bg f i = true
   ·rw [if_pos ho, if_pos ho]
   ·rw [if_neg ho, if_neg ho]
  ·rw [if_pos (by simpa using he), Dh hk7 he]
 ·have hx : xit l (nde p f i) = 0#32 := if_neg hk7
  rw [if_neg (eqF hk7)]
  by_cases hk9 : (List.getD (List.getD p.funcs f []) i ae).kind = 9
  ·rw [if_pos (eqT hk9), bind_some (fd _ _)]
   by_cases he : bF (List.getD (List.getD l f aa).live i 0#32) (List.getD l f aa).liveExit = true
   ·rw [he, if_neg (by decide), bind_some (fO _), bind_some (h15 _), oe (fun h => absurd h hk7) (fun _ => he) (fun h => absurd (hk9.symm.trans h) (by decide)), zo hx]
    by_cases ho : onL p l bg f i = true
    ·rw [if_pos ho, if_pos ho]
    ·rw [if_neg ho, if_neg ho]
   ·rw [if_pos (by simpa using he), Di hk9 he]
  ·rw [if_neg (eqF hk9)]
   by_cases hk5 : (List.getD (List.getD p.funcs f []) i ae).kind = 5
   ·have ha := hsp hk5
    rw [if_pos (eqT hk5), if_pos (decide_eq_true ha.1), iP (by omega), bind_some (show jG p = some p.slots from rfl), bind_some (show cH _ p.slots = some (eW _ p.slots) from mQ _ _)]
    by_cases he : eW (List.getD l (List.getD (List.getD p.funcs f []) i ae).arg.toNat aa).liveEntry p.slots = true
    ·rw [he, if_neg (by decide), bind_some (fO _), bind_some (h15 _), oe (fun h => absurd h hk7) (fun h => absurd h hk9) (fun _ => he), zo hx]
     by_cases ho : onL p l bg f i = true
     ·rw [if_pos ho, if_pos ho]
     ·rw [if_neg ho, if_neg ho]
    ·rw [if_pos (by simpa using he), Dj hk5 he]
   ·rw [if_neg (eqF hk5), bind_some (fO _), bind_some (h15 _), oe (fun h => absurd h hk7) (fun h => absurd h hk9) (fun h => absurd h hk5), zo hx]
    by_cases ho : onL p l bg f i = true
    ·rw [if_pos ho, if_pos ho]
    ·rw [if_neg ho, if_neg ho]
def rV (p : ad) (l : List ab) (bg : W32) (f i : Nat) : Option Int := if iK p l bg f i = 0 then none else some (iK p l bg f i)
def m13 : Option (Nat × Int) → dv
 | some (k, w) => .x0 k w 0
 | none => .x1
theorem Dk (p : ad) (hg : bo p) (l : List ab) (hs : Shp p l) (bg : W32) (f : Nat) (hf : f < p.funcs.length) (x4 x5 x6 : Int) (x14 : List ab) (x15 x16 : Int) : ∀ (m i : Nat), i + m = (List.getD p.funcs f []).length → eM p.globals p.locks p.slots p.funcs x4 x5 x6 p.globals p.locks p.slots p.funcs l bg (f : Int) x14 x15 x16 ((List.getD p.funcs f []).length : Int) (i : Int) = some (m13 (cj (rV p l bg f) i m))
 | 0, i, h => by rw [eM, iN (by omega)]; rfl
 | m + 1, i, h => by
  have hle := hg.le f
  have e := E1 p hg l hs bg f i hf (by omega)
  rw [eM, iP (by omega), bind_some (show eX (iS.mk (ad.mk p.globals p.locks p.slots p.funcs) l bg) (f : Int) (i : Int) = _ from e), inc i (by omega), Dk p hg l hs bg f hf x4 x5 x6 x14 x15 x16 m (i + 1) (by omega), fc]
  unfold rV
  by_cases h0 : iK p l bg f i = 0
  ·rw [if_neg (neF h0), if_pos h0]
  ·rw [if_pos (neT h0), if_neg h0]
   rfl
def rW (p : ad) (l : List ab) (bg : W32) (f : Nat) : Option (Int × Int) :=
 if bF (sec l f).liveEntry (liv l f 0) = false then some (-1, 6) else (cj (rV p l bg f) 0 (List.getD p.funcs f []).length).map fun x => ((x.1 : Int), x.2)
def m8 : Option (Nat × (Int × Int)) → dX
 | some (f, (k, w)) => .x0 f k w 0
 | none => .x1
theorem E2 (p : ad) (hg : bo p) (l : List ab) (hs : Shp p l) (bg : W32) : ∀ (m f : Nat), f + m = l.length → fe p.globals p.locks p.slots p.funcs 0 0 0 p.globals p.locks p.slots p.funcs l bg l (l.length : Int) (f : Int) = some (m8 (cj (rW p l bg) f m))
 | 0, f, h => by rw [fe, iN (by omega)]; rfl
 | m + 1, f, h => by
  have hl := hs.1
  have hn := hg.funcs.2
  have hh : (List.getD l f aa).live.length = (List.getD p.funcs f []).length := (hs.2 f (by omega)).2
  have hp := (hg.len f (by omega)).1
  have h13 := Dk p hg l hs bg f (by omega) 0 0 0 l (l.length : Int) (f : Int) (List.getD p.funcs f []).length 0 (by omega)
  rw [show ((0 : Nat) : Int) = 0 from rfl] at h13
  rw [fe, iP (by omega), iP (by omega), iP (by omega), Int.toNat_natCast f, iP (by omega), bind_some (fd _ _), inc f (by omega), E2 p hg l hs bg m (f + 1) (by omega), fc]
  by_cases hsb : bF (List.getD l f aa).liveEntry (List.getD (List.getD l f aa).live 0 0#32) = true
  ·have hO : rW p l bg f = (cj (rV p l bg f) 0 (List.getD p.funcs f []).length).map fun x => ((x.1 : Int), x.2) := if_neg (by intro h; exact absurd (hsb.symm.trans h) (by decide))
   rw [hsb, if_neg (by decide), iP (by omega), bind_some h13, hO]
   cases cj (rV p l bg f) 0 (List.getD p.funcs f []).length with
   | none => rfl
   | some z => rfl
  ·have hO : rW p l bg f = some (-1, 6) := if_pos (by simpa using hsb)
   rw [if_pos (by simpa using hsb), hO] <;> rfl
def zq (p : ad) (l : List ab) (bg : W32) : aA := match cj (rW p l bg) 0 l.length with | some (f, (k, w)) => ⟨f, k, w⟩ | none => ⟨0, 0, 0⟩
def AA (p : ad) (l : List ab) (bg : W32) : Prop := ∀ f, f < p.funcs.length → bF (sec l f).liveEntry (liv l f 0) = true ∧ ∀ i, i < (List.getD p.funcs f []).length → iK p l bg f i = 0
theorem AB {p : ad} {l : List ab} {bg : W32} (hl : l.length = p.funcs.length) (h : AA p l bg) : zq p l bg = ⟨0, 0, 0⟩ := by
 unfold zq
 rw [jn]
 intro f _ hf
 obtain ⟨h2, h3⟩ := h f (by omega)
 have : cj (rV p l bg f) 0 (List.getD p.funcs f []).length = none := jn fun i _ hi => if_pos (h3 i (by omega))
 unfold rW
 rw [if_neg (by rw [h2]; decide), this]
 rfl
def gi (v : List (BitVec 32)) (i : Int) : BitVec 32 := if 0 ≤ i ∧ i < v.length then v.getD i.toNat 0#32 else 0#32
def be (r : af) (v : List (BitVec 32)) : BitVec 32 :=
 if r.if_ = 0#32 ∨ gi v r.from_ &&& r.if_ ≠ 0#32 then ((gi v r.from_ &&& r.keep) ||| gi v r.also) ||| r.then_ else (gi v r.from_ &&& r.keep) ||| gi v r.also
theorem Hc (v : List (BitVec 32)) (i : Int) : rA v i = some (gi v i) := by
 unfold rA gi
 by_cases h1 : i < 0
 ·rw [if_pos (decide_eq_true h1), if_neg (by omega)]
 ·rw [if_neg (by simpa using h1)]
  by_cases h2 : i < v.length
  ·rw [iN (by omega), iP (by omega), if_pos (decide_eq_true h2), if_pos (by omega)]
  ·rw [iP (by omega), if_neg (by omega)]
theorem AC (r : af) (v : List (BitVec 32)) : fp r v = some (be r v) := by
 unfold fp be
 rw [Hc, Hc]
 simp only [bind, Option.bind_some]
 by_cases h1 : r.if_ = 0#32
 ·rw [if_pos (by simpa using h1), if_pos (.inl h1)]
 ·rw [if_neg (by simpa using h1)]
  by_cases h2 : gi v r.from_ &&& r.if_ = 0#32
  ·rw [if_neg (by simpa using h2), if_neg (by rintro (h | h); exact h1 h; exact h h2)]
  ·rw [if_pos (by simpa using h2), if_pos (.inr h2)]
def zr (l : List Int) (i k : Nat) : List Int := List.set (List.set l i (List.getD l k 0)) k (List.getD l i 0)
theorem uS (l : List Int) (i k : Nat) : (zr l i k).length = l.length := by simp [zr]
theorem rX (l : List Int) (i k : Nat) (hi : i < l.length) (hk : k < l.length) : (zr l i k).Perm l := by
 refine List.perm_iff_count.2 fun a => ?_
 have e1 : l.getD k 0 = l[k] := by simp [List.getD, hk]
 have e2 : l.getD i 0 = l[i] := by simp [List.getD, hi]
 unfold zr
 rw [e1, e2, List.count_set (by simpa using hk), List.count_set hi, List.getElem_set]
 have c1 : 0 < l.count l[i] := List.count_pos_iff.2 (List.getElem_mem hi)
 have c2 : 0 < l.count l[k] := List.count_pos_iff.2 (List.getElem_mem hk)
 by_cases hik : i = k
 ·subst hik
  simp only [if_true]
  by_cases ha : l[i] = a
  ·subst ha; simp
  ·have : (l[i] == a) = false := by simpa using ha
   simp [this]
 ·rw [if_neg hik]
  by_cases ha : l[i] = a <;> by_cases hb : l[k] = a
  ·simp [ha, hb]; subst ha; omega
  ·simp [ha, hb]; subst ha; omega
  ·simp [ha, hb]
  ·simp [ha, hb]
theorem uT (l : List Int) (b : List Bool) (i k : Int) (hi : 0 ≤ i) (hi' : i < l.length) (hk : 0 ≤ k) (hk' : k < l.length) : ∃ c, cK l b i k = some c := by
 unfold cK
 rw [if_pos (decide_eq_true hi), if_pos (decide_eq_true hi'), if_pos (decide_eq_true hk), if_pos (decide_eq_true hk')]
 exact ⟨_, rfl⟩
theorem uU (l : List Int) (b : List Bool) (i k : Int) (hi : 0 ≤ i) (hi' : i < l.length) (hk : 0 ≤ k) (hk' : k < l.length) : cL l b i k = some (zr l i.toNat k.toNat) := by
 unfold cL
 rw [if_pos (decide_eq_true hk), if_pos (decide_eq_true hk'), if_pos (decide_eq_true hi), if_pos (decide_eq_true hi')]
 rfl
theorem E3 (b : List Bool) : ∀ (n : Nat) (l : List Int) (j : Int), j.toNat ≤ n → 0 ≤ j → j < l.length → l.length ≤ 1000000 → ∃ l', fZ l b j = some l' ∧ l'.Perm l
 | n, l, j, hn, h0, hj, hl => by
  rw [fZ]
  rcases Int.lt_or_le j 1 with hj1 | hj1
  ·have : j = 0 := by omega
   subst this
   rw [if_pos (by decide)]
   exact ⟨l, rfl, .refl _⟩
  ·have e1 : aN j 1 = j - 1 := iH (by omega) (by omega)
   have e3 : (j - 1).tdiv 2 = (j - 1) / 2 := Int.tdiv_eq_ediv_of_nonneg (by omega)
   have e2 : rD (aN j 1) 2 = (j - 1) / 2 := by
    rw [e1]
    unfold rD
    rw [e3]
    exact s8 (by omega) (by omega)
   rw [e2]
   have hi0 : 0 ≤ (j - 1) / 2 := by omega
   have hi1 : (j - 1) / 2 < j := by omega
   rw [if_neg (by simp; omega)]
   obtain ⟨c, hc⟩ := uT l b j ((j - 1) / 2) h0 hj hi0 (by omega)
   rw [hc]
   simp only [bind, Option.bind_some]
   by_cases hcc : (!c) = true
   ·rw [if_pos hcc]
    exact ⟨l, rfl, .refl _⟩
   ·rw [if_neg hcc, uU l b _ _ hi0 (by omega) h0 hj]
    simp only [Option.bind_some]
    have hp := rX l ((j - 1) / 2).toNat j.toNat (by omega) (by omega)
    have hlen := uS l ((j - 1) / 2).toNat j.toNat
    match n, hn with
    | 0, hn => omega
    | n + 1, hn =>
     obtain ⟨l', h1, h2⟩ := E3 b n (zr l ((j - 1) / 2).toNat j.toNat) ((j - 1) / 2) (by omega) hi0 (by rw [hlen]; omega) (by rw [hlen]; exact hl)
     exact ⟨l', h1, h2.trans hp⟩
theorem AD (b : List Bool) (x2 : Int) (N : Nat) (l0 : List Int) : ∀ (n : Nat) (l : List Int) (i : Int), N - i.toNat ≤ n → 0 ≤ i → i < l.length → N ≤ l.length → l.length ≤ 1000000 → ∃ r, b7 l b x2 (N : Int) i = some r ∧ r.1.Perm l
 | n, l, i, hn, h0, hi, hN, hl => by
  rw [b7]
  have e1 : cu 2 i = 2 * i := uu (by omega) (by omega)
  have e2 : av (cu 2 i) 1 = 2 * i + 1 := by rw [e1]; exact dI (by omega) (by omega)
  have e3 : av (av (cu 2 i) 1) 1 = 2 * i + 2 := by rw [e2, dI (by omega) (by omega)]; omega
  rw [e3, e2]
  have step : ∀ j : Int, i < j → j < (N : Int) → ∃ r, (b7 (zr l i.toNat j.toNat) b x2 (N : Int) j) = some r ∧ r.1.Perm l := by
   intro j h1 h2
   have hp := rX l i.toNat j.toNat (by omega) (by omega)
   have hlen := uS l i.toNat j.toNat
   match n, hn with
   | 0, hn => omega
   | n + 1, hn =>
    obtain ⟨r, h3, h4⟩ := AD b x2 N l0 n (zr l i.toNat j.toNat) j (by omega) (by omega) (by rw [hlen]; omega) (by rw [hlen]; exact hN) (by rw [hlen]; exact hl)
    exact ⟨r, h3, h4.trans hp⟩
  have go : ∀ j : Int, i < j → j < (N : Int) → ∃ r, (bind (cK l b j i) fun v => if (!v) = true then some (l, i) else bind (cL l b i j) fun v => b7 v b x2 (N : Int) j) = some r ∧ r.1.Perm l := by
   intro j h1 h2
   obtain ⟨c, hc⟩ := uT l b j i (by omega) (by omega) h0 hi
   rw [hc]
   simp only [bind, Option.bind_some]
   by_cases hcc : (!c) = true
   ·rw [if_pos hcc]; exact ⟨(l, i), rfl, .refl _⟩
   ·rw [if_neg hcc, uU l b i j h0 hi (by omega) (by omega)]
    exact step j h1 h2
  by_cases h1 : (2 * i + 1 : Int) ≥ N
  ·rw [if_pos (decide_eq_true h1)]; exact ⟨(l, i), rfl, .refl _⟩
  ·rw [if_neg (by simpa using h1), if_neg (by simp; omega)]
   by_cases h2 : (2 * i + 2 : Int) < N
   ·rw [if_pos (decide_eq_true h2)]
    obtain ⟨c, hc⟩ := uT l b (2 * i + 2) (2 * i + 1) (by omega) (by omega) (by omega) (by omega)
    rw [hc]
    simp only [bind, Option.bind_some]
    cases c with
    | true => exact go (2 * i + 2) (by omega) h2
    | false => exact go (2 * i + 1) (by omega) (by omega)
   ·rw [if_neg (by simpa using h2)]
    exact go (2 * i + 1) (by omega) (by omega)
theorem Cd : ∀ (n : Nat) (l : List Int), l.Nodup → (∀ x ∈ l, 0 ≤ x ∧ x < (n : Int)) → l.length ≤ n
 | 0, l, _, h => by
  cases l with
  | nil => simp
  | cons x l => have := h x (by simp); omega
 | n + 1, l, hn, h => by
  have h1 := Cd n (l.erase (n : Int)) (hn.erase _) fun x hx => by
   have h2 := h x (List.mem_of_mem_erase hx)
   have h3 : x ≠ (n : Int) := fun e => by
    subst e
    exact (List.Nodup.not_mem_erase hn) hx
   omega
  have h4 : l.length ≤ (l.erase (n : Int)).length + 1 := by
   rw [List.length_erase]
   split <;> omega
  omega
structure WK (n : Nat) (l : List Int) (b : List Bool) : Prop where
 len : b.length = n
 nd : l.Nodup
 rng : ∀ x ∈ l, 0 ≤ x ∧ x < (n : Int)
 is : ∀ i : Nat, i < n → (b.getD i false = true ↔ (i : Int) ∈ l)
theorem E4 (l : List Int) (b : List Bool) (x : Int) (hl : l.length ≤ 65536) : ∃ l', kJ l b x = some l' ∧ l'.Perm (l ++ [x]) := by
 unfold kJ jX dh s7
 rw [if_pos (Nat.ble_eq_true_of_le (by simp only [List.length_singleton, aK]; omega))]
 simp only [bind, Option.bind_some]
 have e1 : aN (((l ++ [x]).length : Nat) : Int) 1 = l.length := by
  rw [List.length_append, List.length_singleton, iH (by omega) (by omega)]; omega
 rw [e1]
 obtain ⟨l', h1, h2⟩ := E3 b l.length (l ++ [x]) (l.length : Int) (by omega) (by omega) (by simp; omega) (by simp; omega)
 rw [h1]
 exact ⟨l', rfl, h2⟩
theorem rY {n : Nat} (hn : n ≤ 65536) {l : List Int} {b : List Bool} (h : WK n l b) {i : Int} (h0 : 0 ≤ i) (hi : i < (n : Int)) : ∃ l' b', di l b i = some (l', b') ∧ WK n l' b' ∧ (∀ x, x ∈ l' ↔ x ∈ l ∨ x = i) ∧ l'.length ≤ l.length + 1 := by
 unfold di
 rw [if_pos (decide_eq_true h0), if_pos (decide_eq_true (by rw [h.len]; exact hi))]
 have hii : ((i.toNat : Nat) : Int) = i := by omega
 have his := h.is i.toNat (by omega)
 rw [hii] at his
 cases hb : b.getD i.toNat false with
 | true =>
  rw [if_neg (by simp)]
  have hm := his.1 hb
  exact ⟨l, b, rfl, h, fun x => ⟨.inl, fun hx => hx.elim id fun e => e ▸ hm⟩, by omega⟩
 | false =>
  rw [if_pos (by simp)]
  have hm : i ∉ l := fun hm => by rw [his.2 hm] at hb; cases hb
  obtain ⟨l', h1, h2⟩ := E4 l (b.set i.toNat true) i (by have := Cd n l h.nd h.rng; omega)
  rw [h1]
  refine ⟨l', _, rfl, ⟨by simp [h.len], ?_, fun x hx => ?_, fun k hk => ?_⟩, fun x => ?_, ?_⟩
  ·refine h2.nodup_iff.2 (List.nodup_append.2 ⟨h.nd, by simp, fun a ha c hc => ?_⟩)
   simp at hc
   subst hc
   exact fun e => hm (e ▸ ha)
  ·have := h2.mem_iff.1 hx
   simp at this
   rcases this with hx | rfl
   ·exact h.rng x hx
   ·exact ⟨h0, hi⟩
  ·rw [h2.mem_iff]
   simp only [List.mem_append, List.mem_singleton]
   by_cases hki : k = i.toNat
   ·subst hki
    simp only [hii, or_true, iff_true]
    simp [List.getD, h.len, hk]
   ·have h3 : ¬ (k : Int) = i := by omega
    have h4 : i.toNat ≠ k := fun e => hki e.symm
    simp only [h3, or_false]
    rw [← h.is k hk]
    simp [List.getD, List.getElem?_set, h4]
  ·rw [h2.mem_iff]; simp
  ·have := h2.length_eq
   simp at this
   omega
theorem Gu (l : List Int) (b : List Bool) (h0 : 0 < l.length) (hl : l.length ≤ 65536) : ∃ x l', mg l b = some (x, l') ∧ (l' ++ [x]).Perm l := by
 unfold mg dh
 have e1 : aN ((l.length : Nat) : Int) 1 = ((l.length - 1 : Nat) : Int) := by rw [iH (by omega) (by omega)]; omega
 simp only [bind, Option.bind_some, e1]
 rw [uU l b 0 ((l.length - 1 : Nat) : Int) (by omega) (by omega) (by omega) (by omega)]
 simp only [Option.bind_some]
 have hp := rX l (0 : Int).toNat ((l.length - 1 : Nat) : Int).toNat (by simp; omega) (by omega)
 have hlen := uS l (0 : Int).toNat ((l.length - 1 : Nat) : Int).toNat
 unfold nl
 obtain ⟨r, h1, h2⟩ := AD b 0 (l.length - 1) l (l.length - 1) (zr l (0 : Int).toNat ((l.length - 1 : Nat) : Int).toNat) 0 (by omega) (by omega) (by rw [hlen]; omega) (by rw [hlen]; omega) (by rw [hlen]; omega)
 rw [h1]
 simp only [bind, Option.bind_some]
 have hrl : r.1.length = l.length := h2.length_eq.trans hlen
 unfold kU
 have e2 : aN ((r.1.length : Nat) : Int) 1 = ((l.length - 1 : Nat) : Int) := by rw [hrl]; exact e1
 rw [e2, iP (by omega), iP (by omega), iP (by omega)]
 refine ⟨_, _, rfl, ?_⟩
 have e3 : (((l.length - 1 : Nat) : Int)).toNat = l.length - 1 := by omega
 rw [e3]
 have e4 : List.take (l.length - 1) r.1 ++ [r.1.getD (l.length - 1) 0] = r.1 := by
  have hlt : l.length - 1 < r.1.length := by omega
  have := List.take_append_getElem hlt
  rw [List.getD_eq_getElem?_getD, List.getElem?_eq_getElem hlt]
  simp only [Option.getD_some]
  rw [this]
  exact List.take_of_length_le (by omega)
 rw [e4]
 exact h2.trans hp
theorem Dl {n : Nat} (hn : n ≤ 65536) {l : List Int} {b : List Bool} (h : WK n l b) (h0 : 0 < l.length) : ∃ i l' b', fF l b = some (i, l', b') ∧ i ∈ l ∧ WK n l' b' ∧ (∀ x, x ∈ l' ↔ x ∈ l ∧ x ≠ i) ∧ l'.length + 1 = l.length := by
 have hs := Cd n l h.nd h.rng
 obtain ⟨x, l', h1, h2⟩ := Gu l b h0 (by omega)
 unfold fF
 rw [h1]
 simp only [bind, Option.bind_some]
 have hxm : x ∈ l := h2.mem_iff.1 (by simp)
 have hxr := h.rng x hxm
 rw [if_pos (decide_eq_true hxr.1), if_pos (decide_eq_true (by rw [h.len]; exact hxr.2))]
 have hnd : (l' ++ [x]).Nodup := h2.nodup_iff.2 h.nd
 have hnx : x ∉ l' := fun hm => by
  have := (List.nodup_append.1 hnd).2.2 x hm x (by simp)
  exact this rfl
 have hmem : ∀ y, y ∈ l' ↔ y ∈ l ∧ y ≠ x := fun y => by
  constructor
  ·intro hy
   exact ⟨h2.mem_iff.1 (by simp [hy]), fun e => hnx (e ▸ hy)⟩
  ·rintro ⟨hy, hne⟩
   have := h2.mem_iff.2 hy
   simp at this
   exact this.resolve_right hne
 refine ⟨x, l', _, rfl, hxm, ⟨by simp [h.len], (List.nodup_append.1 hnd).1, fun y hy => h.rng y ((hmem y).1 hy).1, fun k hk => ?_⟩, hmem, by have := h2.length_eq; simp at this; omega⟩
 rw [hmem]
 have hxx : ((x.toNat : Nat) : Int) = x := by omega
 by_cases hkx : k = x.toNat
 ·subst hkx
  simp [hxx, List.getD, h.len, hk]
 ·have h4 : x.toNat ≠ k := fun e => hkx e.symm
  have h5 : (k : Int) ≠ x := by omega
  simp only [h5, ne_eq, not_false_eq_true, and_true]
  rw [← h.is k hk]
  simp [List.getD, List.getElem?_set, h4]
def sub (a b : W32) : Prop := ∀ i, a.getLsbD i = true → b.getLsbD i = true
theorem sub.refl (a : W32) : sub a a := fun _ h => h
theorem sub.trans {a b c : W32} (h : sub a b) (k : sub b c) : sub a c := fun i hi => k i (h i hi)
theorem yj (a b : W32) : sub (a &&& b) a := fun i h => by simp at h; exact h.1
theorem jo (a b : W32) : sub (a &&& b) b := fun i h => by simp at h; exact h.2
theorem Dm {a b c : W32} (h : sub c a) (k : sub c b) : sub c (a &&& b) := fun i hi => by simp [h i hi, k i hi]
theorem qj (a b : W32) : sub a (a ||| b) := fun i h => by simp [h]
theorem uV (a b : W32) : sub b (a ||| b) := fun i h => by simp [h]
theorem Ce {a b c : W32} (h : sub a c) (k : sub b c) : sub (a ||| b) c := fun i hi => by
 simp at hi
 exact hi.elim (h i) (k i)
theorem Dn {a : W32} : a ≠ 0#32 ↔ ∃ i, a.getLsbD i = true := by
 constructor
 ·intro h
  apply Classical.byContradiction
  intro hn
  apply h
  apply BitVec.eq_of_getLsbD_eq
  intro i hi
  cases ha : a.getLsbD i with
  | false => simp
  | true => exact absurd ⟨i, ha⟩ hn
 ·rintro ⟨i, hi⟩ rfl
  simp at hi
theorem yk (r : af) {v w : List W32} (h : ∀ j : Int, sub (gi v j) (gi w j)) : sub (be r v) (be r w) := by
 unfold be
 have h1 : sub (gi v r.from_ &&& r.keep ||| gi v r.also) (gi w r.from_ &&& r.keep ||| gi w r.also) :=
  Ce (sub.trans (Dm (sub.trans (yj _ _) (h _)) (jo _ _)) (qj _ _)) (sub.trans (h _) (uV _ _))
 by_cases hv : r.if_ = 0#32 ∨ gi v r.from_ &&& r.if_ ≠ 0#32
 ·have hw : r.if_ = 0#32 ∨ gi w r.from_ &&& r.if_ ≠ 0#32 := by
   rcases hv with hv | hv
   ·exact .inl hv
   ·obtain ⟨i, hi⟩ := Dn.1 hv
    refine .inr (Dn.2 ⟨i, ?_⟩)
    simp at hi ⊢
    exact ⟨h _ i hi.1, hi.2⟩
  rw [if_pos hv, if_pos hw]
  exact Ce (sub.trans h1 (qj _ _)) (uV _ _)
 ·rw [if_neg hv]
  split
  ·exact sub.trans h1 (qj _ _)
  ·exact h1
theorem AE (v : List W32) (u : List (List Int)) (b0 : List af) (r : af) (h0 : 0 ≤ r.to_) (h1 : r.to_ < v.length) :
  eH v u b0 r = some ((gi v r.to_ &&& be r v) != gi v r.to_, v.set r.to_.toNat (gi v r.to_ &&& be r v)) := by
 unfold eH sZ
 rw [if_pos (decide_eq_true h0), if_pos (decide_eq_true h1), AC]
 simp only [bind, Option.bind_some]
 have e : List.getD v r.to_.toNat 0#32 = gi v r.to_ := by unfold gi; rw [if_pos ⟨h0, h1⟩]
 rw [e]
 have e2 : ∀ x : W32, List.getD (List.set v r.to_.toNat x) r.to_.toNat 0#32 = x := fun x => by
  have : r.to_.toNat < v.length := by omega
  simp [List.getD, this]
 rw [e2]
theorem mS (v : List W32) (i : Nat) (x : W32) (hi : i < v.length) (j : Int) : gi (v.set i x) j = if j = (i : Int) then x else gi v j := by
 unfold gi
 rw [List.length_set]
 by_cases hj : j = (i : Int)
 ·subst hj
  rw [if_pos (by omega), if_pos rfl]
  simp [List.getD, hi]
 ·rw [if_neg hj]
  split
  ·rename_i h
   have : i ≠ j.toNat := by omega
   simp [List.getD, List.getElem?_set, this]
  ·rfl
def lf (n : Nat) (u : List (List Int)) (j k : Int) : List (List Int) := if 0 ≤ j ∧ j < (n : Int) then u.set j.toNat (u.getD j.toNat [] ++ [k]) else u
theorem Hd (v : List W32) (x1 : List (List Int)) (x3 : List Int) (x4 : List Bool) (rs : List af) (js : List Int) (x7 : List af) (x8 x9 x10 : Int) (x11 x12 x13 : W32) (x14 : List af) (x15 x16 : Int) (hjs : js.length ≤ 2) :
  ∀ (n i : Nat) (u : List (List Int)), i + n = js.length → u.length = v.length → (∀ j : Nat, (u.getD j []).length + n ≤ 1000000) →
  bc v x1 u x3 x4 rs js x7 x8 x9 x10 x11 x12 x13 x14 x15 x16 (js.length : Int) (i : Int) = some ((js.drop i).foldl (fun u j => lf v.length u j (rs.length : Int)) u)
 | 0, i, u, h, hu, hb => by
  rw [bc, iN (by omega), List.drop_eq_nil_of_le (by omega)]
  rfl
 | n + 1, i, u, h, hu, hb => by
  have hi : av (i : Int) 1 = ((i + 1 : Nat) : Int) := by rw [dI (by omega) (by omega)]; omega
  have hlt : i < js.length := by omega
  rw [bc, iP (by omega), iP (by omega), iP (by omega), hi]
  have e : List.getD js (Int.toNat (i : Int)) 0 = js[i] := by simp [List.getD, hlt]
  rw [e, List.drop_eq_getElem_cons hlt, List.foldl_cons]
  generalize js[i] = j
  have ih := fun u' hu' hb' => Hd v x1 x3 x4 rs js x7 x8 x9 x10 x11 x12 x13 x14 x15 x16 hjs n (i + 1) u' (by omega) hu' hb'
  by_cases h0 : j ≥ 0
  ·rw [if_pos (decide_eq_true h0)]
   by_cases h1 : j < (v.length : Int)
   ·rw [if_pos (decide_eq_true h1), if_pos (decide_eq_true h0), if_pos (decide_eq_true (by rw [hu]; exact h1))]
    rw [if_pos (Nat.ble_eq_true_of_le (by have := hb j.toNat; simp only [List.length_singleton, aK]; omega))]
    have e1 : lf v.length u j (rs.length : Int) = u.set j.toNat (u.getD j.toNat [] ++ [(rs.length : Int)]) := if_pos ⟨h0, h1⟩
    rw [e1]
    refine ih _ (by simp [hu]) fun k => ?_
    have hk := hb k
    by_cases hkj : j.toNat = k
    ·subst hkj
     have : j.toNat < u.length := by omega
     simp [List.getD, this] at hk ⊢
     omega
    ·have : (u.set j.toNat (u.getD j.toNat [] ++ [(rs.length : Int)])).getD k [] = u.getD k [] := by simp [List.getD, List.getElem?_set, hkj]
     rw [this]; omega
   ·rw [if_neg (by simpa using h1)]
    have e1 : lf v.length u j (rs.length : Int) = u := if_neg (by omega)
    rw [e1]
    exact ih u hu fun k => by have := hb k; omega
  ·rw [if_neg (by simpa using h0)]
   have e1 : lf v.length u j (rs.length : Int) = u := if_neg (by omega)
   rw [e1]
   exact ih u hu fun k => by have := hb k; omega
def pop (a : W32) : Nat := ((List.range 32).filter fun i => a.getLsbD i).length
theorem Ek {p q : Nat → Bool} (l : List Nat) (h : ∀ i, p i = true → q i = true) : (l.filter p).length ≤ (l.filter q).length := by
 induction l with
 | nil => simp
 | cons x l ih =>
  simp only [List.filter_cons]
  cases hp : p x with
  | true => rw [h x hp]; simpa using ih
  | false => cases q x <;> simp <;> omega
theorem yl {p q : Nat → Bool} (l : List Nat) (h : ∀ i, p i = true → q i = true) {x : Nat} (hx : x ∈ l) (h1 : p x = false) (h2 : q x = true) : (l.filter p).length < (l.filter q).length := by
 induction l with
 | nil => cases hx
 | cons y l ih =>
  simp only [List.filter_cons]
  rcases List.mem_cons.1 hx with rfl | hx
  ·rw [h1, h2]
   have := Ek l h
   simp; omega
  ·have ih := ih hx
   cases hp : p y with
   | true => rw [h y hp]; simpa using ih
   | false => cases q y <;> simp <;> omega
theorem HA {a b : W32} (h : sub a b) (hn : a ≠ b) : pop a < pop b := by
 have : ∃ i, i < 32 ∧ a.getLsbD i = false ∧ b.getLsbD i = true := by
  apply Classical.byContradiction
  intro hno
  apply hn
  apply BitVec.eq_of_getLsbD_eq
  intro i hi
  cases ha : a.getLsbD i with
  | true => rw [h i ha]
  | false =>
   cases hb : b.getLsbD i with
   | false => rfl
   | true => exact absurd ⟨i, hi, ha, hb⟩ hno
 obtain ⟨i, hi, h1, h2⟩ := this
 exact yl _ h (List.mem_range.2 hi) h1 h2
def zt (v : List W32) : Nat := (v.map pop).sum
theorem AF : ∀ (v : List W32) (i : Nat) (x : W32) (h : i < v.length), zt (v.set i x) + pop v[i] = zt v + pop x
 | a :: v, 0, x, h => by simp [zt]; omega
 | a :: v, i + 1, x, h => by
  have := AF v i x (by simpa using h)
  simp [zt] at this ⊢
  omega
def jg (l : List af) (n : Nat) (w : List W32) : Prop := ∀ r ∈ l, 0 ≤ r.to_ → r.to_ < (n : Int) → sub (gi w r.to_) (be r w)
theorem rZ {v : List W32} {j : Int} (h0 : 0 ≤ j) (h1 : j < v.length) : v[j.toNat]'(by omega) = gi v j := by
 unfold gi
 rw [if_pos ⟨h0, h1⟩]
 simp [List.getD, show j.toNat < v.length by omega]
theorem Do {l : List af} {v : List W32} {r : af} {x : W32} (hr : r ∈ l) (h0 : 0 ≤ r.to_) (h1 : r.to_ < v.length) (hx : x = be r v &&& gi v r.to_) :
  (∀ j, sub (gi (v.set r.to_.toNat x) j) (gi v j)) ∧ (∀ w, jg l v.length w → (∀ j, sub (gi w j) (gi v j)) → ∀ j, sub (gi w j) (gi (v.set r.to_.toNat x) j)) ∧ (x ≠ gi v r.to_ → zt (v.set r.to_.toNat x) < zt v) := by
 have hlt : r.to_.toNat < v.length := by omega
 have hcast : ((r.to_.toNat : Nat) : Int) = r.to_ := by omega
 have hg : ∀ j, gi (v.set r.to_.toNat x) j = if j = r.to_ then x else gi v j := fun j => by rw [mS v _ x hlt j, hcast]
 have hsub : sub x (gi v r.to_) := by rw [hx]; exact jo _ _
 refine ⟨fun j => ?_, fun w hw hwv j => ?_, fun hne => ?_⟩
 ·rw [hg]
  split
  ·rename_i e; rw [e]; exact hsub
  ·exact sub.refl _
 ·rw [hg]
  split
  ·rename_i e
   rw [e, hx]
   exact Dm (sub.trans (hw r hr h0 h1) (yk r hwv)) (hwv _)
  ·exact hwv j
 ·have h2 := AF v r.to_.toNat x hlt
  have h3 : v[r.to_.toNat] = gi v r.to_ := rZ h0 h1
  have h4 := HA hsub hne
  rw [h3] at h2
  omega
structure Gfp (l : List af) (v v' : List W32) : Prop where
 len : v'.length = v.length
 sub : ∀ j, sub (gi v' j) (gi v j)
 best : ∀ w, jg l v.length w → (∀ j, Bm.GoYtipjbmnfnmlkfaaGreatDoor.sub (gi w j) (gi v j)) → ∀ j, Bm.GoYtipjbmnfnmlkfaaGreatDoor.sub (gi w j) (gi v' j)
 keeps : jg l v.length v'
theorem E5 (x : List W32) (i m : Nat) (top : W32) (h : i + (m + 1) = x.length) : (x.set i top).take (i + 1) ++ List.replicate m top = x.take i ++ List.replicate (m + 1) top := by
 have h1 : (x.set i top).take (i + 1) = x.take i ++ [top] := by
  apply List.ext_getElem?
  intro k
  by_cases hk : k < i
  ·rw [List.getElem?_take, if_pos (by omega), List.getElem?_append_left (by simp; omega), List.getElem?_take, if_pos hk, List.getElem?_set, if_neg (by omega)]
  ·by_cases hk2 : k = i
   ·subst hk2
    rw [List.getElem?_take, if_pos (by omega), List.getElem?_append_right (by simp; omega)]
    simp [show k < x.length by omega, Nat.min_eq_left (show k ≤ x.length by omega)]
   ·rw [List.getElem?_take, if_neg (by omega)]
    rw [List.getElem?_eq_none (by simp; omega)]
 rw [h1, List.replicate_succ]
 simp
theorem ym (n : Nat) (hn : n ≤ 65536) (top : W32) : ∀ (m i : Nat) (x : List W32), i + m = n → x.length = n → dR x top (n : Int) (i : Int) = some (x.take i ++ List.replicate m top)
 | 0, i, x, h, hx => by
  rw [dR, iN (by omega), List.take_of_length_le (by omega)]
  simp
 | m + 1, i, x, h, hx => by
  have hi : av (i : Int) 1 = ((i + 1 : Nat) : Int) := by rw [dI (by omega) (by omega)]; omega
  rw [dR, iP (by omega), iP (by omega), iP (by omega), hi, ym n hn top m (i + 1) _ (by omega) (by simp [hx])]
  rw [show (Int.toNat (i : Int)) = i by omega, E5 x i m top (by omega)]
theorem AG (n : Int) (top : W32) : jV n top = some (if 0 ≤ n ∧ n ≤ 65536 then List.replicate n.toNat top else []) := by
 unfold jV
 by_cases h0 : n < 0
 ·rw [if_pos (decide_eq_true h0), if_neg (by omega)]
 ·rw [if_neg (by simpa using h0)]
  by_cases h1 : n > 65536
  ·rw [if_pos (decide_eq_true h1), if_neg (by omega)]
  ·rw [if_neg (by simpa using h1), iP (by omega), if_pos (decide_eq_true (by simp only [aK]; omega)), if_pos (by omega)]
   have := ym n.toNat (by omega) top n.toNat 0 (List.replicate n.toNat 0#32) (by omega) (by simp)
   have h3 : dR (List.replicate n.toNat 0#32) top ((n.toNat : Nat) : Int) 0 = some (List.replicate n.toNat top) := by simpa using this
   rw [List.length_replicate, h3]
   rfl
def lg (v : List W32) (r : af) : Prop := sub (gi v r.to_) (be r v)
def hP (l : List Int) (r : af) : Prop := r.from_ ∈ l ∨ r.also ∈ l
theorem jA {r : af} {v w : List W32} (h1 : gi v r.from_ = gi w r.from_) (h2 : gi v r.also = gi w r.also) : be r v = be r w := by unfold be; rw [h1, h2]
theorem AH {v : List W32} {t : Int} {x : W32} (h0 : 0 ≤ t) (h1 : t < v.length) (hx : sub x (gi v t)) {r : af} (hr : lg v r) (hf : r.from_ ≠ t) (ha : r.also ≠ t) : lg (v.set t.toNat x) r := by
 have hlt : t.toNat < v.length := by omega
 have hcast : ((t.toNat : Nat) : Int) = t := by omega
 have hg : ∀ j, gi (v.set t.toNat x) j = if j = t then x else gi v j := fun j => by rw [mS v _ x hlt j, hcast]
 unfold lg at hr ⊢
 rw [jA (v := v.set t.toNat x) (w := v) (by rw [hg, if_neg hf]) (by rw [hg, if_neg ha]), hg]
 split
 ·rename_i e; rw [e] at hr; exact hx.trans hr
 ·exact hr
theorem yn {v : List W32} {r0 : af} {l l' : List Int} (h0 : 0 ≤ r0.to_) (h1 : r0.to_ < v.length) (hl : ∀ y, y ∈ l → y ∈ l') (ht : (gi v r0.to_ &&& be r0 v) ≠ gi v r0.to_ → r0.to_ ∈ l') :
  (∀ r, lg v r ∨ hP l r → lg (v.set r0.to_.toNat (gi v r0.to_ &&& be r0 v)) r ∨ hP l' r) ∧ (lg (v.set r0.to_.toNat (gi v r0.to_ &&& be r0 v)) r0 ∨ hP l' r0) := by
 have hlt : r0.to_.toNat < v.length := by omega
 have hcast : ((r0.to_.toNat : Nat) : Int) = r0.to_ := by omega
 by_cases hc : (gi v r0.to_ &&& be r0 v) = gi v r0.to_
 ·have e : v.set r0.to_.toNat (gi v r0.to_ &&& be r0 v) = v := by
   rw [hc]
   have := rZ h0 h1
   rw [← this]
   simp
  rw [e]
  refine ⟨fun r hr => hr.imp id fun hw => hw.imp (hl _) (hl _), .inl ?_⟩
  show sub (gi v r0.to_) (be r0 v)
  rw [← hc]
  exact jo _ _
 ·have ht := ht hc
  have key : ∀ r, (r.from_ = r0.to_ ∨ r.also = r0.to_) → hP l' r := fun r h => h.elim (fun e => .inl (e ▸ ht)) fun e => .inr (e ▸ ht)
  refine ⟨fun r hr => ?_, ?_⟩
  ·by_cases hin : r.from_ = r0.to_ ∨ r.also = r0.to_
   ·exact .inr (key r hin)
   ·rcases hr with hr | hr
    ·exact .inl (AH h0 h1 (yj _ _) hr (fun e => hin (.inl e)) fun e => hin (.inr e))
    ·exact .inr (hr.imp (hl _) (hl _))
  ·by_cases hin : r0.from_ = r0.to_ ∨ r0.also = r0.to_
   ·exact .inr (key r0 hin)
   ·refine .inl ?_
    have hg : ∀ j, gi (v.set r0.to_.toNat (gi v r0.to_ &&& be r0 v)) j = if j = r0.to_ then (gi v r0.to_ &&& be r0 v) else gi v j := fun j => by rw [mS v _ _ hlt j, hcast]
    show sub (gi _ r0.to_) (be r0 _)
    rw [jA (v := v.set r0.to_.toNat (gi v r0.to_ &&& be r0 v)) (w := v) (by rw [hg, if_neg fun e => hin (.inl e)]) (by rw [hg, if_neg fun e => hin (.inr e)]), hg, if_pos rfl]
    exact jo _ _
theorem Cf (n : Nat) (hn : n ≤ 65536) (x1 : List (List Int)) (us : List (List Int)) (rs : List af) (x6 : List af) (i0 : Nat) (hrs : ∀ r ∈ rs, 0 ≤ r.to_ ∧ r.to_ < (n : Int)) (hus : ∀ k ∈ us.getD i0 [], ∃ q : Nat, k = (q : Int) ∧ q < rs.length) (hlen : (us.getD i0 []).length ≤ 1000000) :
  ∀ (m i : Nat) (v : List W32) (l : List Int) (tb : List Bool), i + m = (us.getD i0 []).length → v.length = n → WK n l tb →
  ∃ v' l' tb', bf v x1 us l tb rs x6 i0 (((us.getD i0 []).length : Nat) : Int) (i : Int) = some (v', l', tb') ∧ v'.length = n ∧ WK n l' tb' ∧ (∀ j, sub (gi v' j) (gi v j)) ∧ (∀ w, jg rs n w → (∀ j, sub (gi w j) (gi v j)) → ∀ j, sub (gi w j) (gi v' j)) ∧
   2 * zt v' + l'.length ≤ 2 * zt v + l.length ∧ (∀ r, lg v r ∨ hP l r → lg v' r ∨ hP l' r) ∧ (∀ (q : Nat) (r : af), rs[q]? = some r → (q : Int) ∈ (us.getD i0 []).drop i → lg v' r ∨ hP l' r)
 | 0, i, v, l, tb, h, hv, hw => by
  rw [bf, iN (by omega)]
  refine ⟨v, l, tb, rfl, hv, hw, fun j => sub.refl _, fun w _ hh => hh, Nat.le_refl _, fun r hr => hr, fun q r _ hq => ?_⟩
  rw [List.drop_eq_nil_of_le (by omega)] at hq
  cases hq
 | m + 1, i, v, l, tb, h, hv, hw => by
  have hi : av (i : Int) 1 = ((i + 1 : Nat) : Int) := by rw [dI (by omega) (by omega)]; omega
  have hlt : i < (us.getD i0 []).length := by omega
  rw [bf, iP (by omega), iP (by omega), iP (by omega), hi]
  have e : List.getD (us.getD i0 []) (Int.toNat (i : Int)) 0 = (us.getD i0 [])[i] := by
   rw [Int.toNat_natCast]
   exact (List.getD_eq_getElem?_getD ..).trans (by rw [List.getElem?_eq_getElem hlt]; rfl)
  obtain ⟨q, hq1, hq2⟩ := hus _ (List.getElem_mem hlt)
  have hdrop : (us.getD i0 []).drop i = (us.getD i0 [])[i] :: (us.getD i0 []).drop (i + 1) := List.drop_eq_getElem_cons hlt
  rw [hdrop, e, hq1, iP (by omega), iP (by omega)]
  have er : List.getD rs (Int.toNat (q : Int)) ag = rs[q] := by simp [List.getD, hq2]
  rw [er]
  obtain ⟨r0, r1⟩ := hrs _ (List.getElem_mem hq2)
  have r1' : rs[q].to_ < (v.length : Int) := by rw [hv]; exact r1
  rw [AE v us x6 rs[q] r0 r1']
  simp only [bind, Option.bind_some]
  have hx : be rs[q] v &&& gi v rs[q].to_ = gi v rs[q].to_ &&& be rs[q] v := BitVec.and_comm _ _
  obtain ⟨c1, c2, c3⟩ := Do (l := rs) (x := gi v rs[q].to_ &&& be rs[q] v) (List.getElem_mem hq2) r0 r1' hx.symm
  have hlen2 : (v.set rs[q].to_.toNat (gi v rs[q].to_ &&& be rs[q] v)).length = n := by simp [hv]
  have hrq : rs[q]? = some rs[q] := List.getElem?_eq_getElem hq2
  by_cases hc : (gi v rs[q].to_ &&& be rs[q] v) = gi v rs[q].to_
  ·rw [if_neg (by simpa using hc)]
   obtain ⟨d1, d2⟩ := yn (l := l) (l' := l) r0 r1' (fun _ h => h) (fun hh => absurd hc hh)
   have hpe : v.set rs[q].to_.toNat (gi v rs[q].to_ &&& be rs[q] v) = v := by
    rw [hc]
    have := rZ r0 r1'
    rw [← this]; simp
   rw [hpe] at d1 d2 ⊢
   obtain ⟨v', l', tb', q1, q2, q3, q4, q5, q6, q7, q8⟩ := Cf n hn x1 us rs x6 i0 hrs hus hlen m (i + 1) v l tb (by omega) hv hw
   refine ⟨v', l', tb', q1, q2, q3, q4, q5, q6, q7, fun k r hk hm => ?_⟩
   rcases List.mem_cons.1 hm with hm | hm
   ·have : k = q := by omega
    subst this
    rw [hrq] at hk
    cases hk
    exact q7 _ d2
   ·exact q8 k r hk hm
  ·rw [if_pos (by simpa using hc)]
   obtain ⟨l1, tb1, a1, a2, a3, a4⟩ := rY hn hw r0 r1
   rw [a1]
   simp only [Option.bind_some]
   obtain ⟨d1, d2⟩ := yn (l := l) (l' := l1) r0 r1' (fun y hy => (a3 y).2 (.inl hy)) (fun _ => (a3 _).2 (.inr rfl))
   have hp := c3 hc
   obtain ⟨v', l', tb', q1, q2, q3, q4, q5, q6, q7, q8⟩ := Cf n hn x1 us rs x6 i0 hrs hus hlen m (i + 1) _ l1 tb1 (by omega) hlen2 a2
   refine ⟨v', l', tb', q1, q2, q3, fun j => (q4 j).trans (c1 j), fun w hk hwv => q5 w hk (c2 w (hv ▸ hk) hwv), by omega, fun r hr => q7 r (d1 r hr), fun k r hk hm => ?_⟩
   rcases List.mem_cons.1 hm with hm | hm
   ·have : k = q := by omega
    subst this
    rw [hrq] at hk
    cases hk
    exact q7 _ d2
   ·exact q8 k r hk hm
theorem E6 (n : Nat) (hn : n ≤ 65536) (x1 : List (List Int)) (us : List (List Int)) (rs : List af) (x6 : List af) (hrs : ∀ r ∈ rs, 0 ≤ r.to_ ∧ r.to_ < (n : Int)) (husl : us.length = n) (hus : ∀ i0 : Nat, ∀ k ∈ us.getD i0 [], ∃ q : Nat, k = (q : Int) ∧ q < rs.length) (hlen : ∀ i0 : Nat, (us.getD i0 []).length ≤ 1000000)
  (huse : ∀ (q : Nat) (r : af) (j : Int), rs[q]? = some r → (r.from_ = j ∨ r.also = j) → 0 ≤ j → j < (n : Int) → (q : Int) ∈ us.getD j.toNat []) :
  ∀ (M : Nat) (v : List W32) (l : List Int) (tb : List Bool), 2 * zt v + l.length ≤ M → v.length = n → WK n l tb → (∀ r ∈ rs, lg v r ∨ hP l r) →
  ∃ v', bY v x1 us l tb rs x6 = some v' ∧ v'.length = n ∧ (∀ j, sub (gi v' j) (gi v j)) ∧ (∀ w, jg rs n w → (∀ j, sub (gi w j) (gi v j)) → ∀ j, sub (gi w j) (gi v' j)) ∧ ∀ r ∈ rs, lg v' r
 | M, v, l, tb, hM, hv, hw, hall => by
  rw [bY]
  unfold dh
  simp only [bind, Option.bind_some]
  by_cases h0 : 0 < l.length
  ·rw [iP (by omega)]
   obtain ⟨i, l1, tb1, a1, a2, a3, a4, a5⟩ := Dl hn hw h0
   have hir := hw.rng i a2
   rw [a1]
   simp only [Option.bind_some]
   rw [if_pos (decide_eq_true hir.1), if_pos (decide_eq_true (by rw [husl]; exact hir.2))]
   obtain ⟨v', l', tb', q1, q2, q3, q4, q5, q6, q7, q8⟩ := Cf n hn x1 us rs x6 i.toNat hrs (hus _) (hlen _) (us.getD i.toNat []).length 0 v l1 tb1 (Nat.zero_add _) hv a3
   rw [show ((0 : Nat) : Int) = 0 from rfl] at q1
   rw [q1]
   simp only [Option.bind_some]
   have hall' : ∀ r ∈ rs, lg v' r ∨ hP l' r := by
    intro r hr
    obtain ⟨q, hq⟩ := List.getElem?_of_mem hr
    by_cases hin : r.from_ = i ∨ r.also = i
    ·exact q8 q r hq (by rw [List.drop_zero]; exact huse q r i hq hin hir.1 hir.2)
    ·refine q7 r ((hall r hr).imp id fun hwt => ?_)
     rcases hwt with hwt | hwt
     ·exact .inl ((a4 _).2 ⟨hwt, fun e => hin (.inl e)⟩)
     ·exact .inr ((a4 _).2 ⟨hwt, fun e => hin (.inr e)⟩)
   match M, hM with
   | 0, hM => omega
   | M + 1, hM =>
    obtain ⟨v2, b1, b2, b3, b4, b5⟩ := E6 n hn x1 us rs x6 hrs husl hus hlen huse M v' l' tb' (by omega) q2 q3 hall'
    exact ⟨v2, b1, b2, fun j => (b3 j).trans (q4 j), fun w hk hwv => b4 w hk (q5 w hk hwv), b5⟩
  ·rw [iN (by omega)]
   refine ⟨v, rfl, hv, fun j => sub.refl _, fun w _ hh => hh, fun r hr => (hall r hr).resolve_right fun hwt => ?_⟩
   have : l = [] := List.length_eq_zero_iff.1 (by omega)
   subst this
   rcases hwt with h | h <;> cases h
theorem E7 (n : Nat) (hn : n ≤ 65536) (v : List W32) (x1 x2 : List (List Int)) (x5 x6 : List af) : ∀ (m i : Nat) (l : List Int) (tb : List Bool), i + m = n → WK n l tb → 
  ∃ l' tb', bB v x1 x2 l tb x5 x6 (n : Int) (i : Int) = some (l', tb') ∧ WK n l' tb' ∧ (∀ x, x ∈ l' ↔ x ∈ l ∨ ((i : Int) ≤ x ∧ x < (n : Int)))
 | 0, i, l, tb, h, hw => by
  rw [bB, iN (by omega)]
  exact ⟨l, tb, rfl, hw, fun x => ⟨.inl, fun hx => hx.resolve_right (by omega)⟩⟩
 | m + 1, i, l, tb, h, hw => by
  have hi : av (i : Int) 1 = ((i + 1 : Nat) : Int) := by rw [dI (by omega) (by omega)]; omega
  rw [bB, iP (by omega), hi]
  obtain ⟨l1, tb1, a1, a2, a3, a4⟩ := rY hn hw (i := (i : Int)) (by omega) (by omega)
  rw [a1]
  simp only [bind, Option.bind_some]
  obtain ⟨l', tb', b1, b2, b3⟩ := E7 n hn v x1 x2 x5 x6 m (i + 1) l1 tb1 (by omega) a2
  refine ⟨l', tb', b1, b2, fun x => ?_⟩
  rw [b3, a3]
  constructor
  ·rintro ((h | h) | h)
   ·exact .inl h
   ·exact .inr (by omega)
   ·exact .inr (by omega)
  ·rintro (h | h)
   ·exact .inl (.inl h)
   ·by_cases hx : x = (i : Int)
    ·exact .inl (.inr hx)
    ·exact .inr (by omega)
theorem qk (n : Nat) (us : List (List Int)) (hl : us.length = n) (j k : Int) (i0 : Nat) : (lf n us j k).getD i0 [] = if 0 ≤ j ∧ j < (n : Int) ∧ j.toNat = i0 then us.getD i0 [] ++ [k] else us.getD i0 [] := by
 unfold lf
 by_cases h : 0 ≤ j ∧ j < (n : Int)
 ·rw [if_pos h]
  by_cases hi : j.toNat = i0
  ·subst hi
   rw [if_pos ⟨h.1, h.2, rfl⟩]
   have : j.toNat < us.length := by omega
   simp [List.getD, this]
  ·rw [if_neg (by rintro ⟨_, _, e⟩; exact hi e)]
   simp [List.getD, List.getElem?_set, hi]
 ·rw [if_neg h, if_neg (by rintro ⟨a, b, _⟩; exact h ⟨a, b⟩)]
theorem lh (n : Nat) (us : List (List Int)) (j k : Int) : (lf n us j k).length = us.length := by
 unfold lf
 split <;> simp
theorem uW {r : af} {v w : List W32} (hl : v.length = w.length) (h : ¬ ((0 ≤ r.from_ ∧ r.from_ < (v.length : Int)) ∨ (0 ≤ r.also ∧ r.also < (v.length : Int)))) : be r v = be r w := by
 refine jA ?_ ?_
 ·unfold gi
  rw [if_neg fun hh => h (.inl hh), if_neg fun hh => h (.inl (by rw [hl]; exact hh))]
 ·unfold gi
  rw [if_neg fun hh => h (.inr hh), if_neg fun hh => h (.inr (by rw [hl]; exact hh))]
structure mT (n : Nat) (b : List af) (v0 v : List W32) (us : List (List Int)) (l : List Int) (tb : List Bool) (rs : List af) (i : Nat) : Prop where
 vl : v.length = n
 ul : us.length = n
 wk : WK n l tb
 isr : ∀ r, r ∈ rs ↔ r ∈ b.take i ∧ 0 ≤ r.to_ ∧ r.to_ < (n : Int)
 rl : rs.length ≤ i
 isu : ∀ i0 : Nat, ∀ k ∈ us.getD i0 [], ∃ q : Nat, k = (q : Int) ∧ q < rs.length
 un : ∀ i0 : Nat, (us.getD i0 []).length ≤ 2 * i
 use : ∀ (q : Nat) (r : af) (j : Int), rs[q]? = some r → (r.from_ = j ∨ r.also = j) → 0 ≤ j → j < (n : Int) → (q : Int) ∈ us.getD j.toNat []
 down : ∀ j, sub (gi v j) (gi v0 j)
 best : ∀ w, jg b n w → (∀ j, sub (gi w j) (gi v0 j)) → ∀ j, sub (gi w j) (gi v j)
 hold : ∀ r ∈ rs, ((0 ≤ r.from_ ∧ r.from_ < (n : Int)) ∨ (0 ≤ r.also ∧ r.also < (n : Int))) ∨ lg v r
theorem ql {α : Type} {b : List α} {i : Nat} (h : i < b.length) (x : α) : x ∈ b.take (i + 1) ↔ x ∈ b.take i ∨ x = b[i] := by
 rw [← List.take_append_getElem h, List.mem_append, List.mem_singleton]
theorem qm (n : Nat) (us : List (List Int)) (hl : us.length = n) (j j' k : Int) (i0 : Nat) (x : Int) : x ∈ (lf n (lf n us j k) j' k).getD i0 [] ↔ x ∈ us.getD i0 [] ∨ (x = k ∧ ((0 ≤ j ∧ j < (n : Int) ∧ j.toNat = i0) ∨ (0 ≤ j' ∧ j' < (n : Int) ∧ j'.toNat = i0))) := by
 rw [qk n _ ((lh n us j k).trans hl), qk n us hl]
 by_cases h1 : 0 ≤ j ∧ j < (n : Int) ∧ j.toNat = i0 <;> by_cases h2 : 0 ≤ j' ∧ j' < (n : Int) ∧ j'.toNat = i0 <;> simp [h1, h2, or_assoc]
theorem AI (n : Nat) (us : List (List Int)) (hl : us.length = n) (j j' k : Int) (i0 : Nat) : ((lf n (lf n us j k) j' k).getD i0 []).length ≤ (us.getD i0 []).length + 2 := by
 rw [qk n _ ((lh n us j k).trans hl), qk n us hl]
 by_cases h1 : 0 ≤ j ∧ j < (n : Int) ∧ j.toNat = i0 <;> by_cases h2 : 0 ≤ j' ∧ j' < (n : Int) ∧ j'.toNat = i0 <;> simp [h1, h2]
theorem AJ {α : Type} {l : List α} {x r : α} {q : Nat} (h : (l ++ [x])[q]? = some r) : l[q]? = some r ∨ (q = l.length ∧ r = x) := by
 rw [List.getElem?_append] at h
 split at h
 ·exact .inl h
 ·refine .inr ?_
  rename_i hq
  have h2 : q - l.length = 0 := by
   rcases Nat.eq_zero_or_pos (q - l.length) with h3 | h3
   ·exact h3
   ·rw [List.getElem?_eq_none (by simp; omega)] at h; cases h
  rw [h2] at h
  refine ⟨by omega, ?_⟩
  simpa using h.symm
theorem mT.next {n : Nat} {b : List af} {v0 v : List W32} {us : List (List Int)} {l : List Int} {tb : List Bool} {rs : List af} {i : Nat} (h : mT n b v0 v us l tb rs i) (hi : i < b.length) (hn : ¬ (0 ≤ b[i].to_ ∧ b[i].to_ < (n : Int))) : mT n b v0 v us l tb rs (i + 1) where
 vl := h.vl
 ul := h.ul
 wk := h.wk
 isr := fun r => by
  rw [h.isr, ql hi]
  constructor
  ·rintro ⟨h1, h2⟩; exact ⟨.inl h1, h2⟩
  ·rintro ⟨h1 | h1, h2⟩
   ·exact ⟨h1, h2⟩
   ·subst h1; exact absurd h2 hn
 rl := by have := h.rl; omega
 isu := h.isu
 un := fun i0 => by have := h.un i0; omega
 use := h.use
 down := h.down
 best := h.best
 hold := h.hold
theorem mT.rule {n : Nat} {b : List af} {v0 v : List W32} {us : List (List Int)} {l l' : List Int} {tb tb' : List Bool} {rs : List af} {i : Nat} (h : mT n b v0 v us l tb rs i) (hi : i < b.length) (h0 : 0 ≤ b[i].to_) (h1 : b[i].to_ < (n : Int)) (hw : WK n l' tb') :
  mT n b v0 (v.set b[i].to_.toNat (gi v b[i].to_ &&& be b[i] v)) (lf n (lf n us b[i].from_ (rs.length : Int)) b[i].also (rs.length : Int)) l' tb' (rs ++ [b[i]]) (i + 1) := by
 have h1' : b[i].to_ < (v.length : Int) := by rw [h.vl]; exact h1
 have hlt : b[i].to_.toNat < v.length := by omega
 obtain ⟨c1, c2, c3⟩ := Do (l := b) (x := gi v b[i].to_ &&& be b[i] v) (List.getElem_mem hi) h0 h1' (BitVec.and_comm _ _)
 constructor
 ·rw [List.length_set, h.vl]
 ·rw [lh, lh, h.ul]
 ·exact hw
 ·intro r
  rw [List.mem_append, List.mem_singleton, h.isr, ql hi]
  constructor
  ·rintro (⟨h2, h3⟩ | rfl)
   ·exact ⟨.inl h2, h3⟩
   ·exact ⟨.inr rfl, h0, h1⟩
  ·rintro ⟨h2 | h2, h3⟩
   ·exact .inl ⟨h2, h3⟩
   ·exact .inr h2
 ·have := h.rl
  simp; omega
 ·intro i0 k hk
  rcases (qm n us h.ul _ _ _ i0 k).1 hk with hk | ⟨rfl, _⟩
  ·obtain ⟨q, h2, h3⟩ := h.isu i0 k hk
   exact ⟨q, h2, by simp; omega⟩
  ·exact ⟨rs.length, rfl, by simp⟩
 ·intro i0
  have h2 := AI n us h.ul b[i].from_ b[i].also (rs.length : Int) i0
  have h3 := h.un i0
  omega
 ·intro q r j hq hj hj0 hj1
  rw [qm n us h.ul]
  rcases AJ hq with hq | ⟨rfl, rfl⟩
  ·exact .inl (h.use q r j hq hj hj0 hj1)
  ·refine .inr ⟨rfl, ?_⟩
   rcases hj with hj | hj
   ·exact .inl (by rw [hj]; exact ⟨hj0, hj1, rfl⟩)
   ·exact .inr (by rw [hj]; exact ⟨hj0, hj1, rfl⟩)
 ·exact fun j => (c1 j).trans (h.down j)
 ·exact fun w hk hwv => c2 w (h.vl ▸ hk) (h.best w hk hwv)
 ·intro r hr
  by_cases hin : (0 ≤ r.from_ ∧ r.from_ < (n : Int)) ∨ (0 ≤ r.also ∧ r.also < (n : Int))
  ·exact .inl hin
  ·refine .inr ?_
   have e : be r (v.set b[i].to_.toNat (gi v b[i].to_ &&& be b[i] v)) = be r v := uW (by simp) (by rw [List.length_set, h.vl]; exact hin)
   show sub _ _
   rw [e]
   rcases List.mem_append.1 hr with hr | hr
   ·exact (c1 r.to_).trans ((h.hold r hr).resolve_left hin)
   ·rw [List.mem_singleton] at hr
    subst hr
    have hcast : ((b[i].to_.toNat : Nat) : Int) = b[i].to_ := by omega
    have hg := mS v _ (gi v b[i].to_ &&& be b[i] v) hlt b[i].to_
    rw [hg, hcast, if_pos rfl]
    exact jo _ _
theorem AK (n : Nat) (hn : n ≤ 65536) (x1 : List (List Int)) (b : List af) (hb : b.length ≤ 65536) (v0 : List W32) : ∀ (m i : Nat) (v : List W32) (us : List (List Int)) (l : List Int) (tb : List Bool) (rs : List af), i + m = b.length → mT n b v0 v us l tb rs i →
  ∃ v' us' l' tb' rs', aS v x1 us l tb rs b b (b.length : Int) (i : Int) = some (v', us', l', tb', rs') ∧ mT n b v0 v' us' l' tb' rs' b.length
 | 0, i, v, us, l, tb, rs, h, hf => by
  rw [aS, iN (by omega)]
  have : i = b.length := by omega
  subst this
  exact ⟨v, us, l, tb, rs, rfl, hf⟩
 | m + 1, i, v, us, l, tb, rs, h, hf => by
  have hi : av (i : Int) 1 = ((i + 1 : Nat) : Int) := by rw [dI (by omega) (by omega)]; omega
  have hlt : i < b.length := by omega
  rw [aS, iP (by omega), iP (by omega), iP (by omega), hi]
  have e : List.getD b (Int.toNat (i : Int)) ag = b[i] := by simp [List.getD, hlt]
  rw [e]
  by_cases h0 : b[i].to_ < 0
  ·rw [if_pos (decide_eq_true h0)]
   exact AK n hn x1 b hb v0 m (i + 1) v us l tb rs (by omega) (hf.next hlt (by omega))
  ·rw [if_neg (by simpa using h0)]
   by_cases h1 : b[i].to_ ≥ (v.length : Int)
   ·rw [if_pos (decide_eq_true h1)]
    exact AK n hn x1 b hb v0 m (i + 1) v us l tb rs (by omega) (hf.next hlt (by rw [hf.vl] at h1; omega))
   ·rw [if_neg (by simpa using h1)]
    have h2 := Hd v x1 l tb rs [b[i].from_, b[i].also] b b[i].to_ b[i].from_ b[i].also b[i].keep b[i].if_ b[i].then_ b (b.length : Int) (i : Int) (by simp) 2 0 us rfl (by rw [hf.ul, hf.vl]) (fun j => by have := hf.un j; omega)
    rw [show ((0 : Nat) : Int) = 0 from rfl] at h2
    rw [h2]
    simp only [bind, Option.bind_some, List.drop_zero, List.foldl_cons, List.foldl_nil]
    rw [if_pos (Nat.ble_eq_true_of_le (by have := hf.rl; simp only [List.length_singleton, aK]; omega))]
    have g0 : 0 ≤ b[i].to_ := by omega
    have g1 : b[i].to_ < (v.length : Int) := by omega
    have g2 : b[i].to_ < (n : Int) := by rw [← hf.vl]; exact g1
    rw [AE v _ b b[i] g0 g1, hf.vl]
    simp only [Option.bind_some]
    by_cases hc : (gi v b[i].to_ &&& be b[i] v) = gi v b[i].to_
    ·rw [if_neg (by simpa using hc)]
     exact AK n hn x1 b hb v0 m (i + 1) _ _ l tb _ (by omega) (hf.rule hlt g0 g2 hf.wk)
    ·rw [if_pos (by simpa using hc)]
     obtain ⟨l1, tb1, a1, a2, a3, a4⟩ := rY hn hf.wk g0 g2
     rw [a1]
     simp only [Option.bind_some]
     exact AK n hn x1 b hb v0 m (i + 1) _ _ l1 tb1 _ (by omega) (hf.rule hlt g0 g2 a2)
theorem qn (n : Nat) (i0 : Nat) : (List.replicate n ([] : List Int)).getD i0 [] = [] := by
 simp only [List.getD, List.getElem?_replicate]
 split <;> rfl
theorem mT.start (v0 : List W32) (b : List af) : mT v0.length b v0 v0 (List.replicate v0.length []) [] (List.replicate v0.length false) [] 0 where
 vl := rfl
 ul := by simp
 wk := ⟨by simp, by simp, by simp, fun i hi => by simp [List.getD, List.getElem?_replicate, hi]⟩
 isr := fun r => by simp
 rl := Nat.le_refl _
 isu := fun i0 k hk => by rw [qn] at hk; cases hk
 un := fun i0 => by rw [qn]; simp
 use := fun q r j hq => by simp at hq
 down := fun j => sub.refl _
 best := fun w _ h => h
 hold := fun r hr => by cases hr
theorem E8 (v0 : List W32) (x1 : List (List Int)) (b : List af) (hv : v0.length ≤ 65536) (hb : b.length ≤ 65536) : ∃ v us, fv v0 x1 b = some (v, us) ∧ Gfp b v0 v := by
 unfold fv
 rw [iP (by omega), if_pos (decide_eq_true (by simp only [aK]; omega)), if_pos (decide_eq_true (by simp only [aK]; omega))]
 rw [show Int.toNat ((v0.length : Nat) : Int) = v0.length by omega]
 obtain ⟨v, us, l, tb, rs, h1, hf⟩ := AK v0.length hv x1 b hb v0 b.length 0 v0 _ _ _ _ (by omega) (mT.start v0 b)
 rw [show ((0 : Nat) : Int) = 0 from rfl] at h1
 rw [h1]
 simp only [bind, Option.bind_some]
 obtain ⟨l', tb', h2, h3, h4⟩ := E7 v0.length hv v x1 us rs b v0.length 0 l tb (by omega) hf.wk
 rw [show ((0 : Nat) : Int) = 0 from rfl] at h2
 rw [hf.vl, h2]
 simp only [Option.bind_some]
 obtain ⟨v', q1, q2, q3, q4, q5⟩ := E6 v0.length hv x1 us rs b (fun r hr => ((hf.isr r).1 hr).2) hf.ul hf.isu (fun i0 => by have := hf.un i0; omega) hf.use _ v l' tb' (Nat.le_refl _) hf.vl h3 (fun r hr => by
  rcases hf.hold r hr with (h | h) | h
  ·exact .inr (.inl ((h4 _).2 (.inr (by omega))))
  ·exact .inr (.inr ((h4 _).2 (.inr (by omega))))
  ·exact .inl h)
 rw [q1]
 refine ⟨v', us, rfl, q2, fun j => (q3 j).trans (hf.down j), fun w hk hwv => q4 w (fun r hr => hk r (List.mem_of_mem_take ((hf.isr r).1 hr).1)) (hf.best w hk hwv), fun r hr a0 a1 => ?_⟩
 exact q5 r ((hf.isr r).2 ⟨by rw [List.take_length]; exact hr, a0, a1⟩)
theorem AL (n : Int) (top : W32) (b : List af) (hb : b.length ≤ 65536) : ∃ v, iz n top b = some v ∧ Gfp b (if 0 ≤ n ∧ n ≤ 65536 then List.replicate n.toNat top else []) v := by
 unfold iz
 rw [AG]
 simp only [bind, Option.bind_some]
 obtain ⟨v, us, h1, h2⟩ := E8 (if 0 ≤ n ∧ n ≤ 65536 then List.replicate n.toNat top else []) [] b (by split <;> simp; omega) hb
 rw [h1]
 exact ⟨v, rfl, h2⟩
def dW (a b : W32) : Prop := sub b a
theorem dW.refl (a : W32) : dW a a := sub.refl a
theorem dW.trans {a b c : W32} (h : dW a b) (k : dW b c) : dW a c := sub.trans k h
theorem Cg (a b : W32) : dW (a ||| b) a := qj a b
theorem lQ (a b : W32) : dW (a ||| b) b := uV a b
theorem E9 {a b c : W32} (h : dW c a) (k : dW c b) : dW c (a ||| b) := Ce h k
theorem Ch (r : af) {v w : List W32} (h : ∀ j : Int, dW (gi v j) (gi w j)) : dW (be r v) (be r w) := yk r h
def Fa (a : W32) : Nat := ((List.range 32).filter fun i => !a.getLsbD i).length
theorem Gv {a b : W32} (h : dW a b) (hn : a ≠ b) : Fa a < Fa b := by
 have : ∃ i, i < 32 ∧ b.getLsbD i = false ∧ a.getLsbD i = true := by
  apply Classical.byContradiction
  intro hno
  apply hn
  apply BitVec.eq_of_getLsbD_eq
  intro i hi
  cases hb : b.getLsbD i with
  | true => rw [h i hb]
  | false =>
   cases ha : a.getLsbD i with
   | false => rfl
   | true => exact absurd ⟨i, hi, hb, ha⟩ hno
 obtain ⟨i, hi, h1, h2⟩ := this
 refine yl _ (fun k hk => ?_) (List.mem_range.2 hi) (by simp [h2]) (by simp [h1])
 cases hb : b.getLsbD k with
 | false => rfl
 | true => have := h k hb; simp [this] at hk
theorem yo (v : List W32) (u : List (List Int)) (b0 : List af) (r : af) (h0 : 0 ≤ r.to_) (h1 : r.to_ < v.length) :
  dE v u b0 r = some ((gi v r.to_ ||| be r v) != gi v r.to_, v.set r.to_.toNat (gi v r.to_ ||| be r v)) := by
 unfold dE so
 rw [if_pos (decide_eq_true h0), if_pos (decide_eq_true h1), AC]
 simp only [bind, Option.bind_some]
 have e : List.getD v r.to_.toNat 0#32 = gi v r.to_ := by unfold gi; rw [if_pos ⟨h0, h1⟩]
 rw [e]
 have e2 : ∀ x : W32, List.getD (List.set v r.to_.toNat x) r.to_.toNat 0#32 = x := fun x => by
  have : r.to_.toNat < v.length := by omega
  simp [List.getD, this]
 rw [e2]
end Go.Bm.GoYtipjbmnfnmlkfaaGreatDoor
