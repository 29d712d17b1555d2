import Derived.Test.YtipjbmnfnmlkfaaDoorTX5c
namespace Go.Bm.GoYtipjbmnfnmlkfaaDoor
set_option autoImplicit false
set_option linter.unusedVariables false
set_option linter.unusedSimpArgs false
set_option maxRecDepth 100000
theorem iP {c : Prop} [Decidable c] {α : Sort _} {a b : α} (h : c) : (if decide c = true then a else b) = a := if_pos (decide_eq_true h)
theorem iN {c : Prop} [Decidable c] {α : Sort _} {a b : α} (h : ¬ c) : (if decide c = true then a else b) = b := if_neg (by rw [decide_eq_true_eq]; exact h)
theorem bind_some {α β : Type} {x : Option α} {v : α} {k : α → Option β} (h : x = some v) : (bind x k) = k v := by rw [h]; rfl
theorem inc (i : Nat) (h : i ≤ 1000000000) : am (i : Int) 1 = ((i + 1 : Nat) : Int) := by rw [gQ (by omega) (by omega)]; omega
theorem eqT {a b : Int} (h : a = b) : ((a : Int) == b) = true := by simp [h]
theorem eqF {a b : Int} (h : a ≠ b) : ¬ ((a : Int) == b) = true := by simp [h]
theorem EY (n s : Int) : iC n s = some (decide (0 ≤ n ∧ n < s)) := by
 unfold iC
 by_cases h : n ≥ 0
 ·rw [if_pos (decide_eq_true h)]
  congr 1
  rw [decide_eq_decide]
  omega
 ·rw [if_neg (by simpa using h)]
  congr 1
  rw [eq_comm, decide_eq_false_iff_not]
  omega
structure nt (p : ae) (x : ab) (n : Int) : Prop where
 kind : 0 ≤ x.kind ∧ x.kind ≤ 9
 glob : x.kind = 1 ∨ x.kind = 2 → 0 ≤ x.arg ∧ x.arg < p.globals
 lock : x.kind = 3 ∨ x.kind = 4 → 0 ≤ x.arg ∧ x.arg < p.locks
 spawn : x.kind = 5 → 0 ≤ x.arg ∧ x.arg < p.funcs.length ∧ 0 ≤ x.alt ∧ x.alt < p.slots
 join : x.kind = 6 → 0 ≤ x.arg ∧ x.arg < p.slots
 call : x.kind = 7 → 0 ≤ x.arg ∧ x.arg < p.funcs.length
 next : x.kind ≠ 9 → 0 ≤ x.next ∧ x.next < max n 1
 alt : x.kind = 8 → 0 ≤ x.alt ∧ x.alt < max n 1
theorem Ig {a b c g l s : Int} {fs : List (List ab)} {n : Int} {row : ByteArray} {s0 s1 s2 : Int} (hz : row.size = 3) (h0 : bN ⟨g, l, s, fs⟩ (aW row 0) n = some s0) (h1 : bN ⟨g, l, s, fs⟩ (aW row 1) n = some s1) (h2 : bN ⟨g, l, s, fs⟩ (aW row 2) n = some s2) :
  bg [a, b, c] g l s fs n row 0 = some (if (0 ≤ a ∧ a < s0) ∧ (0 ≤ b ∧ b < s1) ∧ (0 ≤ c ∧ c < s2) then .x1 else .x0 false) := by
 have i1 : am 0 1 = 1 := by rw [gQ (by omega) (by omega)]; rfl
 have i2 : am 1 1 = 2 := by rw [gQ (by omega) (by omega)]; rfl
 have i3 : am 2 1 = 3 := by rw [gQ (by omega) (by omega)]; rfl
 have e3 : bg [a, b, c] g l s fs n row 3 = some .x1 := by rw [bg, if_neg (by decide)]
 have e2 : bg [a, b, c] g l s fs n row 2 = some (if (0 ≤ c ∧ c < s2) then .x1 else .x0 false) := by
  rw [bg, if_pos (by decide), if_pos (by decide), if_pos (by rw [hz]; decide), bind_some (show bN ⟨g, l, s, fs⟩ (aW row (Int.toNat 2)) n = some s2 from h2), if_pos (by simp), i3, e3]
  show (if decide (c < 0) = true then _ else if decide (c ≥ s2) = true then _ else _) = _
  by_cases c0 : c < 0
  ·rw [if_pos (decide_eq_true c0), if_neg (by omega)]
  ·rw [if_neg (by simpa using c0)]
   by_cases c1 : c ≥ s2
   ·rw [if_pos (decide_eq_true c1), if_neg (by omega)]
   ·rw [if_neg (by simpa using c1), if_pos (by omega)]
 have e1 : bg [a, b, c] g l s fs n row 1 = some (if (0 ≤ b ∧ b < s1) ∧ (0 ≤ c ∧ c < s2) then .x1 else .x0 false) := by
  rw [bg, if_pos (by decide), if_pos (by decide), if_pos (by rw [hz]; decide), bind_some (show bN ⟨g, l, s, fs⟩ (aW row (Int.toNat 1)) n = some s1 from h1), if_pos (by simp), i2, e2]
  show (if decide (b < 0) = true then _ else if decide (b ≥ s1) = true then _ else _) = _
  by_cases c0 : b < 0
  ·rw [if_pos (decide_eq_true c0), if_neg (by omega)]
  ·rw [if_neg (by simpa using c0)]
   by_cases c1 : b ≥ s1
   ·rw [if_pos (decide_eq_true c1), if_neg (by omega)]
   ·rw [if_neg (by simpa using c1)]
    congr 2
    rw [eq_iff_iff]
    omega
 rw [bg, if_pos (by decide), if_pos (by decide), if_pos (by rw [hz]; decide), bind_some (show bN ⟨g, l, s, fs⟩ (aW row (Int.toNat 0)) n = some s0 from h0), if_pos (by simp), i1, e1]
 show (if decide (a < 0) = true then _ else if decide (a ≥ s0) = true then _ else _) = _
 by_cases c0 : a < 0
 ·rw [if_pos (decide_eq_true c0), if_neg (by omega)]
 ·rw [if_neg (by simpa using c0)]
  by_cases c1 : a ≥ s0
  ·rw [if_pos (decide_eq_true c1), if_neg (by omega)]
  ·rw [if_neg (by simpa using c1)]
   congr 2
   rw [eq_iff_iff]
   omega
theorem jm {p : ae} {x : ab} {n : Int} {row : ByteArray} {s0 s1 s2 a0 a1 a2 : Int} {ok : Bool} (hr : eD x.kind = some row) (hne : (ByteArray.toList row == ByteArray.toList (ByteArray.mk #[])) = false) (hz : row.size = 3)
  (h0 : bN p (aW row 0) n = some s0) (h1 : bN p (aW row 1) n = some s1) (h2 : bN p (aW row 2) n = some s2) (hf : gB p x.kind n = some (a0, a1, a2, ok))
  (hiff : (ok = true ∧ (0 ≤ x.arg ∧ x.arg < if 1 > a0 then 1 else a0) ∧ (0 ≤ x.next ∧ x.next < if 1 > a1 then 1 else a1) ∧ (0 ≤ x.alt ∧ x.alt < if 1 > a2 then 1 else a2)) ↔ ((0 ≤ x.arg ∧ x.arg < s0) ∧ (0 ≤ x.next ∧ x.next < s1) ∧ (0 ≤ x.alt ∧ x.alt < s2))) :
  ∃ b, gC p x n = some b ∧ dp p x n = some b ∧ (b = true ↔ ((0 ≤ x.arg ∧ x.arg < s0) ∧ (0 ≤ x.next ∧ x.next < s1) ∧ (0 ≤ x.alt ∧ x.alt < s2))) := by
 refine ⟨decide ((0 ≤ x.arg ∧ x.arg < s0) ∧ (0 ≤ x.next ∧ x.next < s1) ∧ (0 ≤ x.alt ∧ x.alt < s2)), ?_, ?_, decide_eq_true_iff⟩
 ·unfold gC
  rw [bind_some hf]
  simp only [EY, bind, Option.bind_some]
  by_cases ho : ok = true
  ·rw [if_pos ho]
   by_cases c0 : (0 ≤ x.arg ∧ x.arg < if 1 > a0 then 1 else a0)
   ·rw [if_pos (decide_eq_true c0)]
    by_cases c1 : (0 ≤ x.next ∧ x.next < if 1 > a1 then 1 else a1)
    ·rw [if_pos (decide_eq_true c1)]
     congr 1
     rw [decide_eq_decide]
     exact ⟨fun h => hiff.1 ⟨ho, c0, c1, h⟩, fun h => (hiff.2 h).2.2.2⟩
    ·rw [if_neg (by simpa using c1), decide_eq_false fun h => c1 (hiff.2 h).2.2.1]
   ·rw [if_neg (by simpa using c0), decide_eq_false fun h => c0 (hiff.2 h).2.1]
  ·rw [if_neg ho, decide_eq_false fun h => ho (hiff.2 h).1]
 ·unfold dp
  rw [bind_some hr, if_neg (by rw [hne]; decide), bind_some (Ig hz h0 h1 h2)]
  by_cases c : (0 ≤ x.arg ∧ x.arg < s0) ∧ (0 ≤ x.next ∧ x.next < s1) ∧ (0 ≤ x.alt ∧ x.alt < s2)
  ·rw [if_pos c, decide_eq_true c]
  ·rw [if_neg c, decide_eq_false c]
theorem vf (b : ByteArray) : ∀ (m i : Nat) (r : List UInt8), i + m = b.size → (ByteArray.toList.loop b i r).length = r.length + m
 | 0, i, r, h => by
  rw [ByteArray.toList.loop, if_neg (by omega)]
  simp
 | m + 1, i, r, h => by
  rw [ByteArray.toList.loop, if_pos (by omega), vf b m (i + 1) _ (by omega)]
  simp; omega
theorem w0 (b : ByteArray) : (ByteArray.toList b).length = b.size := by
 unfold ByteArray.toList
 rw [vf b b.size 0 [] (by omega)]
 simp
theorem hJ (b : ByteArray) (h : b.size ≠ 0) : (ByteArray.toList b == ByteArray.toList (ByteArray.mk #[])) = false := by
 rw [beq_eq_false_iff_ne]
 intro e
 have := congrArg List.length e
 rw [w0, w0] at this
 exact h this
theorem Ih {k : Nat} {row : ByteArray} (hk : k < 10) (h : List.getD [(ByteArray.mk #[45, 110, 45]), (ByteArray.mk #[103, 110, 45]), (ByteArray.mk #[103, 110, 45]), (ByteArray.mk #[108, 110, 45]), (ByteArray.mk #[108, 110, 45]), (ByteArray.mk #[102, 110, 115]), (ByteArray.mk #[115, 110, 45]), (ByteArray.mk #[102, 110, 45]), (ByteArray.mk #[45, 110, 110]), (ByteArray.mk #[45, 45, 45])] k ByteArray.empty = row) : eD (k : Int) = some row := by
 unfold eD
 rw [iN (by omega), iN (by omega), iP (by omega), if_pos (decide_eq_true (by simp only [List.length_cons, List.length_nil]; omega))]
 rw [show Int.toNat (k : Int) = k from by omega, h]
theorem CL (p : ae) (x : ab) (n : Int) : ∃ b, gC p x n = some b ∧ dp p x n = some b ∧ (b = true → nt p x n) := by
 by_cases hlt : x.kind < 0
 ·refine ⟨false, ?_, ?_, fun h => by cases h⟩
  ·unfold gC
   have hf : gB p x.kind n = some (0, 0, 0, false) := by
    unfold gB
    rw [if_neg (eqF (by omega)), if_neg (eqF (by omega)), if_neg (eqF (by omega)), if_neg (eqF (by omega)), if_neg (eqF (by omega)), if_neg (eqF (by omega)), if_neg (eqF (by omega)), if_neg (eqF (by omega)), if_neg (eqF (by omega)), if_neg (eqF (by omega))]
   rw [bind_some hf]
   rfl
  ·unfold dp eD
   rw [if_pos (decide_eq_true hlt), bind_some rfl, if_pos (by simp)]
 ·by_cases hgt : x.kind > 9
  ·refine ⟨false, ?_, ?_, fun h => by cases h⟩
   ·unfold gC
    have hf : gB p x.kind n = some (0, 0, 0, false) := by
     unfold gB
     rw [if_neg (eqF (by omega)), if_neg (eqF (by omega)), if_neg (eqF (by omega)), if_neg (eqF (by omega)), if_neg (eqF (by omega)), if_neg (eqF (by omega)), if_neg (eqF (by omega)), if_neg (eqF (by omega)), if_neg (eqF (by omega)), if_neg (eqF (by omega))]
    rw [bind_some hf]
    rfl
   ·unfold dp eD
    rw [if_neg (by simpa using hlt), if_pos (decide_eq_true hgt), bind_some rfl, if_pos (by simp)]
  ·obtain ⟨k, hk⟩ : ∃ k : Nat, x.kind = (k : Int) := ⟨x.kind.toNat, by omega⟩
   have h10 : k < 10 := by omega
   have hrow : eD x.kind = some (List.getD [(ByteArray.mk #[45, 110, 45]), (ByteArray.mk #[103, 110, 45]), (ByteArray.mk #[103, 110, 45]), (ByteArray.mk #[108, 110, 45]), (ByteArray.mk #[108, 110, 45]), (ByteArray.mk #[102, 110, 115]), (ByteArray.mk #[115, 110, 45]), (ByteArray.mk #[102, 110, 45]), (ByteArray.mk #[45, 110, 110]), (ByteArray.mk #[45, 45, 45])] k ByteArray.empty) := by rw [hk]; exact Ih h10 rfl
   have hm : ∀ m : Int, (if 1 > m then 1 else m) = max m 1 := fun m => by split <;> omega
   have fin : ∀ {s0 s1 s2 : Int} (h : ∃ b, gC p x n = some b ∧ dp p x n = some b ∧ (b = true ↔ ((0 ≤ x.arg ∧ x.arg < s0) ∧ (0 ≤ x.next ∧ x.next < s1) ∧ (0 ≤ x.alt ∧ x.alt < s2)))), (((0 ≤ x.arg ∧ x.arg < s0) ∧ (0 ≤ x.next ∧ x.next < s1) ∧ (0 ≤ x.alt ∧ x.alt < s2)) → nt p x n) → ∃ b, gC p x n = some b ∧ dp p x n = some b ∧ (b = true → nt p x n) := fun ⟨b, h1, h2, h3⟩ h => ⟨b, h1, h2, fun hb => h (h3.1 hb)⟩
   match k, h10, hk, hrow with
   | 0, _, hk, hrow => exact fin (jm hrow (hJ _ (by decide)) rfl (s0 := 1) (s1 := if 1 > n then 1 else n) (s2 := 1) rfl rfl rfl (a0 := 0) (a1 := n) (a2 := 0) (ok := true) (by rw [hk]; rfl) (by simp only [hm, eq_self, true_and]; omega)) (fun h => by simp only [hm] at h; constructor <;> intros <;> omega)
   | 1, _, hk, hrow => exact fin (jm hrow (hJ _ (by decide)) rfl (s0 := p.globals) (s1 := if 1 > n then 1 else n) (s2 := 1) rfl rfl rfl (a0 := p.globals) (a1 := n) (a2 := 0) (ok := decide (p.globals > 0)) (by rw [hk]; rfl) (by simp only [hm, decide_eq_true_eq]; omega)) (fun h => by simp only [hm] at h; constructor <;> intros <;> omega)
   | 2, _, hk, hrow => exact fin (jm hrow (hJ _ (by decide)) rfl (s0 := p.globals) (s1 := if 1 > n then 1 else n) (s2 := 1) rfl rfl rfl (a0 := p.globals) (a1 := n) (a2 := 0) (ok := decide (p.globals > 0)) (by rw [hk]; rfl) (by simp only [hm, decide_eq_true_eq]; omega)) (fun h => by simp only [hm] at h; constructor <;> intros <;> omega)
   | 3, _, hk, hrow => exact fin (jm hrow (hJ _ (by decide)) rfl (s0 := p.locks) (s1 := if 1 > n then 1 else n) (s2 := 1) rfl rfl rfl (a0 := p.locks) (a1 := n) (a2 := 0) (ok := decide (p.locks > 0)) (by rw [hk]; rfl) (by simp only [hm, decide_eq_true_eq]; omega)) (fun h => by simp only [hm] at h; constructor <;> intros <;> omega)
   | 4, _, hk, hrow => exact fin (jm hrow (hJ _ (by decide)) rfl (s0 := p.locks) (s1 := if 1 > n then 1 else n) (s2 := 1) rfl rfl rfl (a0 := p.locks) (a1 := n) (a2 := 0) (ok := decide (p.locks > 0)) (by rw [hk]; rfl) (by simp only [hm, decide_eq_true_eq]; omega)) (fun h => by simp only [hm] at h; constructor <;> intros <;> omega)
   | 5, _, hk, hrow =>
    exact fin (jm hrow (hJ _ (by decide)) rfl (s0 := (p.funcs.length : Int)) (s1 := if 1 > n then 1 else n) (s2 := p.slots) rfl rfl rfl (a0 := (p.funcs.length : Int)) (a1 := n) (a2 := p.slots) (ok := decide (p.slots > 0 ∧ (p.funcs.length : Int) > 0)) (by
     rw [hk]
     show (if decide (p.slots > 0) = true then _ else _) = _
     by_cases c : p.slots > 0
     ·rw [if_pos (decide_eq_true c)]; simp [c]
     ·rw [if_neg (by simpa using c)]; simp [c]) (by simp only [hm, decide_eq_true_eq]; omega)) (fun h => by simp only [hm] at h; constructor <;> intros <;> omega)
   | 6, _, hk, hrow => exact fin (jm hrow (hJ _ (by decide)) rfl (s0 := p.slots) (s1 := if 1 > n then 1 else n) (s2 := 1) rfl rfl rfl (a0 := p.slots) (a1 := n) (a2 := 0) (ok := decide (p.slots > 0)) (by rw [hk]; rfl) (by simp only [hm, decide_eq_true_eq]; omega)) (fun h => by simp only [hm] at h; constructor <;> intros <;> omega)
   | 7, _, hk, hrow => exact fin (jm hrow (hJ _ (by decide)) rfl (s0 := (p.funcs.length : Int)) (s1 := if 1 > n then 1 else n) (s2 := 1) rfl rfl rfl (a0 := (p.funcs.length : Int)) (a1 := n) (a2 := 0) (ok := decide ((p.funcs.length : Int) > 0)) (by rw [hk]; rfl) (by simp only [hm, decide_eq_true_eq]; omega)) (fun h => by simp only [hm] at h; constructor <;> intros <;> omega)
   | 8, _, hk, hrow => exact fin (jm hrow (hJ _ (by decide)) rfl (s0 := 1) (s1 := if 1 > n then 1 else n) (s2 := if 1 > n then 1 else n) rfl rfl rfl (a0 := 0) (a1 := n) (a2 := n) (ok := true) (by rw [hk]; rfl) (by simp only [hm, eq_self, true_and]; omega)) (fun h => by simp only [hm] at h; constructor <;> intros <;> omega)
   | 9, _, hk, hrow => exact fin (jm hrow (hJ _ (by decide)) rfl (s0 := 1) (s1 := 1) (s2 := 1) rfl rfl rfl (a0 := 0) (a1 := 0) (a2 := 0) (ok := true) (by rw [hk]; rfl) (by simp only [hm, eq_self, true_and]; omega)) (fun h => by constructor <;> intros <;> omega)
def gz (q : Nat → Bool) : Nat → Nat → Option Nat
 | _, 0 => none
 | i, m + 1 => if q i = true then some i else gz q (i + 1) m
def kt {β : Type} (q : Nat → Option β) : Nat → Nat → Option (Nat × β)
 | _, 0 => none
 | i, m + 1 => match q i with
  | some b => some (i, b)
  | none => kt q (i + 1) m
theorem uh {q : Nat → Bool} : ∀ {m i : Nat}, gz q i m = none → ∀ k, i ≤ k → k < i + m → q k = false
 | 0, i, h, k, h1, h2 => by omega
 | m + 1, i, h, k, h1, h2 => by
  unfold gz at h
  split at h
  ·cases h
  ·rename_i hq
   rcases Nat.eq_or_lt_of_le h1 with rfl | h3
   ·simpa using hq
   ·exact uh h k h3 (by omega)
theorem rM {β : Type} {q : Nat → Option β} : ∀ {m i : Nat}, kt q i m = none → ∀ k, i ≤ k → k < i + m → q k = none
 | 0, i, h, k, h1, h2 => by omega
 | m + 1, i, h, k, h1, h2 => by
  unfold kt at h
  split at h
  ·cases h
  ·rename_i hq
   rcases Nat.eq_or_lt_of_le h1 with rfl | h3
   ·exact hq
   ·exact rM h k h3 (by omega)
theorem zr {q : Nat → Bool} : ∀ {m i k : Nat}, gz q i m = some k → i ≤ k ∧ k < i + m ∧ q k = true
 | m + 1, i, k, h => by
  unfold gz at h
  split at h
  ·cases h; exact ⟨Nat.le_refl _, by omega, by assumption⟩
  ·have := zr h; exact ⟨by omega, by omega, this.2.2⟩
theorem w6 {β : Type} {q : Nat → Option β} : ∀ {m i : Nat} {k : Nat × β}, kt q i m = some k → i ≤ k.1 ∧ k.1 < i + m ∧ q k.1 = some k.2
 | m + 1, i, k, h => by
  unfold kt at h
  split at h
  ·cases h; exact ⟨Nat.le_refl _, by omega, by assumption⟩
  ·have := w6 h; exact ⟨by omega, by omega, this.2.2⟩
theorem w7 {q q' : Nat → Bool} : ∀ {m i : Nat}, (∀ k, i ≤ k → k < i + m → q k = q' k) → gz q i m = gz q' i m
 | 0, i, h => rfl
 | m + 1, i, h => by
  unfold gz
  rw [h i (Nat.le_refl _) (by omega), w7 fun k h1 h2 => h k (by omega) (by omega)]
def oC (p : ae) (l : List ab) (i : Nat) : Bool := (gC p (List.getD l i aa) (l.length : Int)).getD false
theorem EZ (p : ae) (l : List ab) (i : Nat) : gC p (List.getD l i aa) (l.length : Int) = some (oC p l i) := by
 obtain ⟨b, h1, _, _⟩ := CL p (List.getD l i aa) (l.length : Int)
 unfold oC; rw [h1]; rfl
theorem FA (p : ae) (l : List ab) (i : Nat) : dp p (List.getD l i aa) (l.length : Int) = some (oC p l i) := by
 obtain ⟨b, h1, h2, _⟩ := CL p (List.getD l i aa) (l.length : Int)
 unfold oC; rw [h1, h2]; rfl
theorem G6 {p : ae} {l : List ab} {i : Nat} (h : oC p l i = true) : nt p (List.getD l i aa) (l.length : Int) := by
 obtain ⟨b, h1, _, h3⟩ := CL p (List.getD l i aa) (l.length : Int)
 unfold oC at h; rw [h1] at h
 exact h3 h
theorem zt (p : ae) (x4 : Int) (x6 : List (List ab)) (x7 x8 : Int) (l : List ab) (hl : l.length ≤ 65536) : ∀ (m i : Nat), i + m = l.length → fh p.globals p.locks p.slots p.funcs x4 l x6 x7 x8 l (l.length : Int) (i : Int) =
  some (match gz (fun i => !oC p l i) i m with | some k => .x0 k 3 | none => .x1)
 | 0, i, h => by rw [fh, iN (by omega)]; rfl
 | m + 1, i, h => by
  rw [fh, iP (by omega), iP (by omega), iP (by omega), Int.toNat_natCast, bind_some (EZ p l i), inc i (by omega)]
  unfold gz
  cases hb : oC p l i with
  | false => rfl
  | true => exact zt p x4 x6 x7 x8 l hl m (i + 1) (by omega)
theorem zu (p : ae) (x4 : Int) (f : Nat) (hf : f < p.funcs.length) (hl : (List.getD p.funcs f []).length ≤ 65536) : ∀ (m i : Nat), i + m = (List.getD p.funcs f []).length → ck p.globals p.locks p.slots p.funcs x4 (f : Int) (i : Int) =
  some (match gz (fun i => !oC p (List.getD p.funcs f []) i) i m with | some k => .x0 k 3 | none => .x1)
 | 0, i, h => by
  rw [ck, iP (by omega), iP (by omega), Int.toNat_natCast, iN (by omega)]
  rfl
 | m + 1, i, h => by
  rw [ck, iP (by omega), iP (by omega), Int.toNat_natCast, iP (by omega), iP (by omega), iP (by omega), Int.toNat_natCast, bind_some (FA p (List.getD p.funcs f []) i), inc i (by omega)]
  unfold gz
  cases hb : oC p (List.getD p.funcs f []) i with
  | false => rfl
  | true => exact zu p x4 f hf hl m (i + 1) (by omega)
def rN (p : ae) (f : Nat) : Option (Int × Int) :=
 if (List.getD p.funcs f []).length = 0 then some (-1, 1) else if (List.getD p.funcs f []).length > 64 then some (-1, 4) else (gz (fun i => !oC p (List.getD p.funcs f []) i) 0 (List.getD p.funcs f []).length).map fun k => ((k : Int), 3)
theorem Bj (p : ae) (hn : p.funcs.length ≤ 65536) : ∀ (m i : Nat), i + m = p.funcs.length → fI p.globals p.locks p.slots p.funcs p.funcs (p.funcs.length : Int) (i : Int) =
  some (match kt (rN p) i m with | some (f, a, b) => .x0 f a b | none => .x1)
 | 0, i, h => by rw [fI, iN (by omega)]; rfl
 | m + 1, i, h => by
  rw [fI, iP (by omega), iP (by omega), iP (by omega), Int.toNat_natCast, inc i (by omega)]
  unfold kt
  have ih := Bj p hn m (i + 1) (by omega)
  rcases Nat.eq_zero_or_pos (List.getD p.funcs i []).length with h0 | h0
  ·rw [if_pos (eqT (by omega)), show rN p i = some (-1, 1) from if_pos h0]
  ·rw [if_neg (eqF (by omega))]
   by_cases h1 : (List.getD p.funcs i []).length > 64
   ·rw [iP (by omega), show rN p i = some (-1, 4) by unfold rN; rw [if_neg (by omega), if_pos h1]]
   ·rw [iN (by omega)]
    have h2 := zt p (i : Int) p.funcs (p.funcs.length : Int) (i : Int) (List.getD p.funcs i []) (by omega) (List.getD p.funcs i []).length 0 (by omega)
    rw [show ((0 : Nat) : Int) = 0 from rfl] at h2
    rw [bind_some h2, show rN p i = (gz (fun k => !oC p (List.getD p.funcs i []) k) 0 (List.getD p.funcs i []).length).map fun k => ((k : Int), 3) by unfold rN; rw [if_neg (by omega), if_neg h1]]
    cases gz (fun k => !oC p (List.getD p.funcs i []) k) 0 (List.getD p.funcs i []).length with
    | some k => rfl
    | none => exact ih
theorem Bk (p : ae) (hn : p.funcs.length ≤ 65536) : ∀ (m i : Nat), i + m = p.funcs.length → cM p.globals p.locks p.slots p.funcs (p.funcs.length : Int) (i : Int) =
  some (match kt (rN p) i m with | some (f, a, b) => .x0 f a b | none => .x1)
 | 0, i, h => by rw [cM, iN (by omega)]; rfl
 | m + 1, i, h => by
  rw [cM, iP (by omega), iP (by omega), iP (by omega), Int.toNat_natCast, inc i (by omega)]
  unfold kt
  have ih := Bk p hn m (i + 1) (by omega)
  rcases Nat.eq_zero_or_pos (List.getD p.funcs i []).length with h0 | h0
  ·rw [if_pos (eqT (by omega)), show rN p i = some (-1, 1) from if_pos h0]
  ·rw [if_neg (eqF (by omega))]
   by_cases h1 : (List.getD p.funcs i []).length > 64
   ·rw [iP (by omega), show rN p i = some (-1, 4) by unfold rN; rw [if_neg (by omega), if_pos h1]]
   ·rw [iN (by omega)]
    have h2 := zu p (p.funcs.length : Int) i (by omega) (by omega) (List.getD p.funcs i []).length 0 (by omega)
    rw [show ((0 : Nat) : Int) = 0 from rfl] at h2
    rw [bind_some h2, show rN p i = (gz (fun k => !oC p (List.getD p.funcs i []) k) 0 (List.getD p.funcs i []).length).map fun k => ((k : Int), 3) by unfold rN; rw [if_neg (by omega), if_neg h1]]
    cases gz (fun k => !oC p (List.getD p.funcs i []) k) 0 (List.getD p.funcs i []).length with
    | some k => rfl
    | none => exact ih
abbrev FS := List (List ab)
def Edge (fs : FS) (a b : Nat) : Prop := ∃ i, i < (List.getD fs a []).length ∧ (List.getD (List.getD fs a []) i aa).kind = 7 ∧ (List.getD (List.getD fs a []) i aa).arg = (b : Int)
inductive ja (fs : FS) : Nat → Nat → Prop
 | refl (a : Nat) : ja fs a a
 | step (a b c : Nat) : Edge fs a b → ja fs b c → ja fs a c
theorem ja.snoc {fs : FS} {a b c : Nat} (h : ja fs a b) (e : Edge fs b c) : ja fs a c := by
 induction h with
 | refl a => exact .step _ _ _ e (.refl _)
 | step a b d h _ ih => exact .step _ _ _ h (ih e)
theorem ja.trans {fs : FS} {a b c : Nat} (h : ja fs a b) (k : ja fs b c) : ja fs a c := by
 induction h with
 | refl a => exact k
 | step a b d h _ ih => exact .step _ _ _ h (ih k)
theorem kY {fs : FS} {S : Nat → Prop} (hS : ∀ x, S x → ∀ y, Edge fs x y → S y) {a b : Nat} (h : ja fs a b) : S a → S b := by
 induction h with
 | refl a => exact id
 | step a b c e _ ih => exact fun ha => ih (hS a ha b e)
def eV (fs : FS) : Prop := ∀ f i, f < fs.length → i < (List.getD fs f []).length → (List.getD (List.getD fs f []) i aa).kind = 7 → 0 ≤ (List.getD (List.getD fs f []) i aa).arg ∧ (List.getD (List.getD fs f []) i aa).arg < fs.length
theorem iL {α : Type} {l : List α} {i : Nat} {d : α} (h : l.length ≤ i) : List.getD l i d = d := by simp [List.getD, h]
theorem Edge.lt {fs : FS} {a b : Nat} (hc : eV fs) (h : Edge fs a b) : a < fs.length ∧ b < fs.length := by
 obtain ⟨i, h1, h2, h3⟩ := h
 rcases Nat.lt_or_ge a fs.length with h4 | h4
 ·have := hc a i h4 h1 h2
  exact ⟨h4, by omega⟩
 ·rw [iL h4] at h1
  cases h1
def Sn (s : List Bool) (x : Nat) : Prop := List.getD s x false = true
theorem Sn.lt {s : List Bool} {x : Nat} (h : Sn s x) : x < s.length := by
 rcases Nat.lt_or_ge x s.length with h1 | h1
 ·exact h1
 ·unfold Sn at h; rw [iL h1] at h; cases h
theorem cT {s : List Bool} {a x : Nat} (ha : a < s.length) : Sn (s.set a true) x ↔ x = a ∨ Sn s x := by
 unfold Sn
 by_cases h : x = a
 ·subst h; simp [List.getD, ha]
 ·have : a ≠ x := fun e => h e.symm
  simp [List.getD, List.getElem?_set, this, h]
theorem nu : ∀ (l m : List Bool), l.length = m.length → (∀ x, Sn l x → Sn m x) → m.count false ≤ l.count false
 | [], [], _, _ => Nat.le_refl _
 | a :: l, b :: m, hl, h => by
  have ih := nu l m (by simpa using hl) fun x hx => h (x + 1) hx
  have h0 := h 0
  unfold Sn at h0
  cases a <;> cases b <;> simp_all <;> omega
theorem iM {s : List Bool} {a : Nat} (ha : a < s.length) (h : ¬ Sn s a) : (s.set a true).count false + 1 = s.count false := by
 have h1 : s[a] = false := by
  unfold Sn at h
  simpa [List.getD, ha] using h
 rw [List.count_set ha]
 have : 0 < s.count false := by
  rw [← h1]; exact List.count_pos_iff.2 (List.getElem_mem ha)
 simp [h1]
 omega
structure ui (fs : FS) (to : Nat) (s s' : List Bool) : Prop where
 len : s'.length = s.length
 mono : ∀ x, Sn s x → Sn s' x
 closed : ∀ x, Sn s' x → Sn s x ∨ (x ≠ to ∧ ∀ y, Edge fs x y → Sn s' y)
theorem FB (p : ae) (hc : eV p.funcs) (to : Nat) (n a : Nat) (ha : a < p.funcs.length) (hat : a ≠ to) (hlen : (List.getD p.funcs a []).length ≤ 65536)
  (self : List Bool → ae → Int → Int → Option (Bool × List Bool))
  (hs : ∀ (s : List Bool) (b : Nat), s.length = p.funcs.length → b < p.funcs.length → s.count false < n → ∃ r s', self s p (b : Int) (to : Int) = some (r, s') ∧ s'.length = p.funcs.length ∧ (r = true → ja p.funcs b to) ∧ (r = false → Sn s' b ∧ ui p.funcs to s s')) :
  ∀ (m i : Nat) (s : List Bool), i + m = (List.getD p.funcs a []).length → s.length = p.funcs.length → s.count false < n → Sn s a →
  (∃ s', dv self s p.globals p.locks p.slots p.funcs (to : Int) (List.getD p.funcs a []) ((List.getD p.funcs a []).length : Int) (i : Int) = some (.x0 s' true) ∧ s'.length = p.funcs.length ∧ ja p.funcs a to) ∨
  (∃ s', dv self s p.globals p.locks p.slots p.funcs (to : Int) (List.getD p.funcs a []) ((List.getD p.funcs a []).length : Int) (i : Int) = some (.x1 s') ∧ ui p.funcs to s s' ∧ ∀ k, i ≤ k → k < (List.getD p.funcs a []).length → (List.getD (List.getD p.funcs a []) k aa).kind = 7 → Sn s' (List.getD (List.getD p.funcs a []) k aa).arg.toNat)
 | 0, i, s, h, hl, hn, hsa => by
  rw [dv, iN (by omega)]
  exact .inr ⟨s, rfl, ⟨rfl, fun x hx => hx, fun x hx => .inl hx⟩, fun k h1 h2 => by omega⟩
 | m + 1, i, s, h, hl, hn, hsa => by
  rw [dv, iP (by omega), iP (by omega), iP (by omega), Int.toNat_natCast, inc i (by omega)]
  by_cases hk : (List.getD (List.getD p.funcs a []) i aa).kind = 7
  ·rw [if_pos (eqT hk)]
   have harg := hc a i ha (by omega) hk
   obtain ⟨b, hb⟩ : ∃ b : Nat, (List.getD (List.getD p.funcs a []) i aa).arg = (b : Int) := ⟨_, (Int.toNat_of_nonneg harg.1).symm⟩
   have hE : Edge p.funcs a b := ⟨i, by omega, hk, hb⟩
   rw [hb] at harg ⊢
   obtain ⟨r, s1, q1, q2, q3, q4⟩ := hs s b hl (by omega) hn
   rw [bind_some q1]
   cases r with
   | true =>
    rw [if_pos rfl]
    exact .inl ⟨s1, rfl, q2, .step _ _ _ hE (q3 rfl)⟩
   | false =>
    rw [if_neg (show ¬ (false, s1).1 = true from Bool.false_ne_true), if_pos (decide_eq_true (by show s1.length = s.length; omega))]
    obtain ⟨q5, q6⟩ := q4 rfl
    have hmono := nu s s1 (by omega) q6.mono
    rcases FB p hc to n a ha hat hlen self hs m (i + 1) s1 (by omega) q2 (by omega) (q6.mono _ hsa) with ⟨s', g1, g2⟩ | ⟨s', g1, g2, g3⟩
    ·exact .inl ⟨s', g1, g2⟩
    ·refine .inr ⟨s', g1, ⟨g2.len.trans q6.len, fun x hx => g2.mono x (q6.mono x hx), fun x hx => ?_⟩, fun k h1 h2 h3 => ?_⟩
     ·rcases g2.closed x hx with h4 | h4
      ·rcases q6.closed x h4 with h5 | h5
       ·exact .inl h5
       ·exact .inr ⟨h5.1, fun y hy => g2.mono y (h5.2 y hy)⟩
      ·exact .inr h4
     ·rcases Nat.eq_or_lt_of_le h1 with rfl | h4
      ·rw [hb, Int.toNat_natCast]
       exact g2.mono _ q5
      ·exact g3 k h4 h2 h3
  ·rw [if_neg (eqF hk)]
   rcases FB p hc to n a ha hat hlen self hs m (i + 1) s (by omega) hl hn hsa with ⟨s', g1, g2⟩ | ⟨s', g1, g2, g3⟩
   ·exact .inl ⟨s', g1, g2⟩
   ·refine .inr ⟨s', g1, g2, fun k h1 h2 h3 => ?_⟩
    rcases Nat.eq_or_lt_of_le h1 with rfl | h4
    ·exact absurd h3 hk
    ·exact g3 k h4 h2 h3
theorem zv (p : ae) (hc : eV p.funcs) (hlen : ∀ f, (List.getD p.funcs f []).length ≤ 65536) (to : Nat) : ∀ (n : Nat) (s : List Bool) (a : Nat), s.length = p.funcs.length → a < p.funcs.length → s.count false < n →
  ∃ r s', fZ n s p (a : Int) (to : Int) = some (r, s') ∧ s'.length = p.funcs.length ∧ (r = true → ja p.funcs a to) ∧ (r = false → Sn s' a ∧ ui p.funcs to s s' ∧ a ≠ to)
 | 0, s, a, hl, ha, hn => by omega
 | n + 1, s, a, hl, ha, hn => by
  show ∃ r s', iO (fZ n) s p (a : Int) (to : Int) = some (r, s') ∧ _
  unfold iO
  by_cases hat : a = to
  ·rw [if_pos (eqT (by omega))]
   subst hat
   exact ⟨true, s, rfl, hl, fun _ => .refl _, (fun h => by cases h)⟩
  ·rw [if_neg (eqF (by omega)), iP (by omega), iP (by omega), Int.toNat_natCast]
   by_cases hsn : Sn s a
   ·rw [if_pos (show List.getD s a false = true from hsn)]
    exact ⟨false, s, rfl, hl, (fun h => by cases h), fun _ => ⟨hsn, ⟨rfl, fun x hx => hx, fun x hx => .inl hx⟩, hat⟩⟩
   ·rw [if_neg (show ¬ List.getD s a false = true from hsn), iP (by omega)]
    have hcount := iM (by omega) hsn
    rcases FB p hc to n a ha hat (hlen a) (fZ n) (fun s b h1 h2 h3 => by
     obtain ⟨r, s', q1, q2, q3, q4⟩ := zv p hc hlen to n s b h1 h2 h3
     exact ⟨r, s', q1, q2, q3, fun h => ⟨(q4 h).1, (q4 h).2.1⟩⟩) (List.getD p.funcs a []).length 0 (s.set a true) (by omega) (by simpa using hl) (by omega) ((cT (by omega)).2 (.inl rfl)) with ⟨s', g1, g2, g3⟩ | ⟨s', g1, g2, g3⟩
    ·rw [show ((0 : Nat) : Int) = 0 from rfl] at g1
     rw [bind_some g1]
     exact ⟨true, s', rfl, g2, fun _ => g3, fun h => by cases h⟩
    ·rw [show ((0 : Nat) : Int) = 0 from rfl] at g1
     rw [bind_some g1]
     have hsub : ∀ x, Sn s x → Sn s' x := fun x hx => g2.mono x ((cT (by omega)).2 (.inr hx))
     refine ⟨false, s', rfl, by have := g2.len; rw [List.length_set] at this; omega, (fun h => by cases h), fun _ => ⟨g2.mono a ((cT (by omega)).2 (.inl rfl)), ⟨by have := g2.len; rw [List.length_set] at this; omega, hsub, fun x hx => ?_⟩, hat⟩⟩
     rcases g2.closed x hx with h1 | h1
     ·rcases (cT (by omega)).1 h1 with rfl | h1
      ·refine .inr ⟨hat, fun y hy => ?_⟩
       obtain ⟨k, k1, k2, k3⟩ := hy
       have := g3 k (Nat.zero_le _) k1 k2
       rw [k3, Int.toNat_natCast] at this
       exact this
      ·exact .inl h1
     ·exact .inr h1
theorem ca (n x : Nat) : ¬ Sn (List.replicate n false) x := by
 unfold Sn
 simp only [List.getD, List.getElem?_replicate]
 split <;> simp
theorem CM (p : ae) (hc : eV p.funcs) (hlen : ∀ f, (List.getD p.funcs f []).length ≤ 65536) (hn : p.funcs.length ≤ 500) (a to : Nat) (ha : a < p.funcs.length) : ∃ r s', j9 (List.replicate p.funcs.length false) p (a : Int) (to : Int) = some (r, s') ∧ (r = true ↔ ja p.funcs a to) := by
 unfold j9
 obtain ⟨r, s', q1, q2, q3, q4⟩ := zv p hc hlen to 1000 (List.replicate p.funcs.length false) a (by simp) ha (by have := List.count_le_length (a := false) (l := List.replicate p.funcs.length false); simp at this ⊢; omega)
 refine ⟨r, s', q1, q3, fun hp => ?_⟩
 cases r with
 | true => rfl
 | false =>
  exfalso
  obtain ⟨h1, h2, h3⟩ := q4 rfl
  have hcl : ∀ x, Sn s' x → x ≠ to ∧ ∀ y, Edge p.funcs x y → Sn s' y := fun x hx => (h2.closed x hx).resolve_left (ca _ _)
  exact (hcl to (kY (fun x hx => (hcl x hx).2) hp h1)).1 rfl
theorem zw (q : Nat → Bool) (i m : Nat) : gz q i (m + 1) = if q i = true then some i else gz q (i + 1) m := rfl
theorem w8 {β : Type} (q : Nat → Option β) (i m : Nat) : kt q i (m + 1) = match q i with
  | some b => some (i, b)
  | none => kt q (i + 1) m := rfl
def Bad (fs : FS) (f i : Nat) : Prop := (List.getD (List.getD fs f []) i aa).kind = 7 ∧ ∃ a : Nat, (List.getD (List.getD fs f []) i aa).arg = (a : Int) ∧ ja fs a f
noncomputable def yV (fs : FS) (f i : Nat) : Bool := @decide (Bad fs f i) (Classical.propDecidable _)
theorem pc {fs : FS} {f i : Nat} : yV fs f i = true ↔ Bad fs f i := by
 unfold yV
 exact @decide_eq_true_iff _ (Classical.propDecidable _)
theorem Bl (p : ae) (hc : eV p.funcs) (hlen : ∀ f, (List.getD p.funcs f []).length ≤ 65536) (hn : p.funcs.length ≤ 500) (f : Nat) (hf : f < p.funcs.length) (x5 : FS) (x6 x7 : Int) : ∀ (m i : Nat), i + m = (List.getD p.funcs f []).length → eW p.globals p.locks p.slots p.funcs (f : Int) x5 x6 x7 (List.getD p.funcs f []) ((List.getD p.funcs f []).length : Int) (i : Int) =
  some (match gz (yV p.funcs f) i m with | some k => .x0 k true | none => .x1)
 | 0, i, h => by rw [eW, iN (by omega)]; rfl
 | m + 1, i, h => by
  have ih := Bl p hc hlen hn f hf x5 x6 x7 m (i + 1) (by omega)
  have hl := hlen f
  rw [eW, iP (by omega), iP (by omega), iP (by omega), Int.toNat_natCast, inc i (by omega), ih]
  rw [zw]
  by_cases hk : (List.getD (List.getD p.funcs f []) i aa).kind = 7
  ·rw [if_pos (eqT hk), iP (by omega), if_pos (decide_eq_true (by simp only [az]; omega)), Int.toNat_natCast]
   have harg := hc f i hf (by omega) hk
   obtain ⟨b, hb⟩ : ∃ b : Nat, (List.getD (List.getD p.funcs f []) i aa).arg = (b : Int) := ⟨_, (Int.toNat_of_nonneg harg.1).symm⟩
   rw [hb] at harg ⊢
   obtain ⟨r, s', q1, q2⟩ := CM p hc hlen hn b f (by omega)
   rw [bind_some q1]
   have hq : yV p.funcs f i = r := by
    rw [Bool.eq_iff_iff, pc, q2]
    constructor
    ·rintro ⟨_, a, h1, h2⟩
     have : a = b := by omega
     rw [← this]; exact h2
    ·exact fun h => ⟨hk, b, hb, h⟩
   rw [hq]
   cases r with
   | true => rfl
   | false => rfl
  ·rw [if_neg (eqF hk)]
   have hq : yV p.funcs f i = false := by
    rw [Bool.eq_false_iff]
    intro h
    exact hk (pc.1 h).1
   rw [hq]
   rfl
noncomputable def FC (fs : FS) (f : Nat) : Option Nat := gz (yV fs f) 0 (List.getD fs f []).length
theorem Bn (p : ae) (hc : eV p.funcs) (hlen : ∀ f, (List.getD p.funcs f []).length ≤ 65536) (hn : p.funcs.length ≤ 500) : ∀ (m i : Nat), i + m = p.funcs.length → fJ p.globals p.locks p.slots p.funcs p.funcs (p.funcs.length : Int) (i : Int) =
  some (match kt (FC p.funcs) i m with | some (f, k) => .x0 f k true | none => .x1)
 | 0, i, h => by rw [fJ, iN (by omega)]; rfl
 | m + 1, i, h => by
  have ih := Bn p hc hlen hn m (i + 1) (by omega)
  have h2 := Bl p hc hlen hn i (by omega) p.funcs (p.funcs.length : Int) (i : Int) (List.getD p.funcs i []).length 0 (by omega)
  rw [show ((0 : Nat) : Int) = 0 from rfl] at h2
  rw [fJ, iP (by omega), iP (by omega), iP (by omega), Int.toNat_natCast, inc i (by omega), ih, bind_some h2]
  rw [w8]
  unfold FC
  cases gz (yV p.funcs i) 0 (List.getD p.funcs i []).length with
  | some k => rfl
  | none => rfl
inductive Via (fs : FS) (k : Nat) : Nat → Nat → Prop
 | edge (a b : Nat) : Edge fs a b → Via fs k a b
 | comp (a c b : Nat) : Via fs k a c → c < k → Via fs k c b → Via fs k a b
def nQ (fs : FS) (a b : Nat) : Prop := ∃ c, Edge fs a c ∧ ja fs c b
theorem nQ.trans {fs : FS} {a b c : Nat} (h : nQ fs a b) (k : nQ fs b c) : nQ fs a c := by
 obtain ⟨x, h1, h2⟩ := h
 obtain ⟨y, k1, k2⟩ := k
 exact ⟨x, h1, h2.trans (.step _ _ _ k1 k2)⟩
theorem Via.of_path {fs : FS} (hc : eV fs) {c b : Nat} (h : ja fs c b) : ∀ a, Edge fs a c → Via fs fs.length a b := by
 induction h with
 | refl c => exact fun a e => .edge a c e
 | step c d b e _ ih => exact fun a e2 => .comp a c b (.edge a c e2) (e2.lt hc).2 (ih c e)
theorem Via.zero {fs : FS} {a b : Nat} (h : Via fs 0 a b) : Edge fs a b := by
 cases h with
 | edge _ _ e => exact e
 | comp _ _ _ _ h _ => omega
theorem Via.mono {fs : FS} {k : Nat} {a b : Nat} (h : Via fs k a b) : Via fs (k + 1) a b := by
 induction h with
 | edge a b e => exact .edge a b e
 | comp a c b _ hc _ ih1 ih2 => exact .comp a c b ih1 (by omega) ih2
theorem Via.succ {fs : FS} {k : Nat} {a b : Nat} (h : Via fs (k + 1) a b) : Via fs k a b ∨ (Via fs k a k ∧ Via fs k k b) := by
 induction h with
 | edge a b e => exact .inl (.edge a b e)
 | comp a c b _ hc _ ih1 ih2 =>
  by_cases hk : c = k
  ·subst hk
   have h1 : Via fs c a c := ih1.elim id fun h => h.1
   have h2 : Via fs c c b := ih2.elim id fun h => h.2
   exact .inr ⟨h1, h2⟩
  ·have hlt : c < k := by omega
   rcases ih1 with h1 | ⟨h1, h1'⟩ <;> rcases ih2 with h2 | ⟨h2, h2'⟩
   ·exact .inl (.comp a c b h1 hlt h2)
   ·exact .inr ⟨.comp a c k h1 hlt h2, h2'⟩
   ·exact .inr ⟨h1, .comp k c b h1' hlt h2⟩
   ·exact .inr ⟨h1, h2'⟩
def TB (t : List (List Int)) (a b : Nat) : Prop := List.getD (List.getD t a []) b 0 = 1
theorem CN {t : List (List Int)} {a b : Nat} (ha : a < t.length) (hb : b < (List.getD t a []).length) (x y : Nat) : TB (t.set a ((List.getD t a []).set b 1)) x y ↔ (x = a ∧ y = b) ∨ TB t x y := by
 unfold TB
 by_cases hx : x = a
 ·subst hx
  have e1 : List.getD (t.set x ((List.getD t x []).set b 1)) x [] = (List.getD t x []).set b 1 := by simp [List.getD, ha]
  rw [e1]
  by_cases hy : y = b
  ·subst hy
   have : List.getD ((List.getD t x []).set y 1) y 0 = 1 := by
    generalize List.getD t x [] = r at hb
    simp [List.getD, hb]
   exact iff_of_true this (.inl ⟨rfl, rfl⟩)
  ·have : List.getD ((List.getD t x []).set b 1) y 0 = List.getD (List.getD t x []) y 0 := by
    generalize List.getD t x [] = r
    have : b ≠ y := fun e => hy e.symm
    simp [List.getD, List.getElem?_set, this]
   rw [this]
   simp [hy]
 ·have : List.getD (t.set a ((List.getD t a []).set b 1)) x [] = List.getD t x [] := by
   generalize (List.getD t a []).set b 1 = r
   have : a ≠ x := fun e => hx e.symm
   simp [List.getD, List.getElem?_set, this]
  rw [this]
  simp [hx]
structure FW (fs : FS) (t : List (List Int)) (k a b : Nat) : Prop where
 len : t.length = fs.length
 row : ∀ x, x < fs.length → (List.getD t x []).length = fs.length
 snd : ∀ x y, TB t x y → nQ fs x y
 cpl : ∀ x y, x < fs.length → y < fs.length → Via fs k x y → TB t x y
 prg : ∀ x y, x < fs.length → y < fs.length → (x < a ∨ (x = a ∧ y < b)) → Via fs k x k → Via fs k k y → TB t x y
theorem G7 {t : List (List Int)} {a b n : Nat} (h : ∀ x, x < n → (List.getD t x []).length = n) (ha : a < n) (hat : a < t.length) : ∀ x, x < n → (List.getD (t.set a ((List.getD t a []).set b 1)) x []).length = n := by
 intro x hx
 by_cases hxa : x = a
 ·subst hxa
  have e1 : List.getD (t.set x ((List.getD t x []).set b 1)) x [] = (List.getD t x []).set b 1 := by simp [List.getD, hat]
  rw [e1, List.length_set]
  exact h x hx
 ·have : List.getD (t.set a ((List.getD t a []).set b 1)) x [] = List.getD t x [] := by
   generalize (List.getD t a []).set b 1 = r
   have : a ≠ x := fun e => hxa e.symm
   simp [List.getD, List.getElem?_set, this]
  rw [this]
  exact h x hx
theorem qc (fs : FS) (hn : fs.length ≤ 65536) (k a : Nat) (hk : k < fs.length) (ha : a < fs.length) : ∀ (m b : Nat) (t : List (List Int)), b + m = fs.length → FW fs t k a b → ∃ t', br t (fs.length : Int) (k : Int) (a : Int) (b : Int) = some t' ∧ FW fs t' k a fs.length
 | 0, b, t, h, hf => by
  rw [br, iN (by omega)]
  have : b = fs.length := by omega
  subst this
  exact ⟨t, rfl, hf⟩
 | m + 1, b, t, h, hf => by
  have hl := hf.len
  have hra := hf.row a ha
  have hrk := hf.row k hk
  rw [br, iP (by omega), iP (by omega), iP (by omega), iP (by omega)]
  simp only [Int.toNat_natCast]
  rw [iP (by omega), inc b (by omega)]
  have keep : (¬ (TB t a k ∧ TB t k b)) → FW fs t k a (b + 1) := fun hno => ⟨hl, hf.row, hf.snd, hf.cpl, fun x y hx hy hxy h1 h2 => by
   rcases hxy with hxy | ⟨rfl, hxy⟩
   ·exact hf.prg x y hx hy (.inl hxy) h1 h2
   ·rcases Nat.lt_or_ge y b with h3 | h3
    ·exact hf.prg x y hx hy (.inr ⟨rfl, h3⟩) h1 h2
    ·have : y = b := by omega
     subst this
     exact absurd ⟨hf.cpl _ _ hx hk h1, hf.cpl _ _ hk hy h2⟩ hno⟩
  by_cases h1 : TB t a k
  ·rw [if_pos (eqT h1), iP (by omega), iP (by omega), iP (by omega)]
   by_cases h2 : TB t k b
   ·rw [if_pos (eqT h2), iP (by omega)]
    refine qc fs hn k a hk ha m (b + 1) _ (by omega) ⟨by simpa using hl, G7 hf.row ha (by omega), fun x y hxy => ?_, fun x y hx hy hv => (CN (by omega) (by omega) x y).2 (.inr (hf.cpl x y hx hy hv)), fun x y hx hy hxy g1 g2 => (CN (by omega) (by omega) x y).2 ?_⟩
    ·rcases (CN (by omega) (by omega) x y).1 hxy with ⟨rfl, rfl⟩ | hxy
     ·exact (hf.snd _ _ h1).trans (hf.snd _ _ h2)
     ·exact hf.snd _ _ hxy
    ·rcases hxy with hxy | ⟨rfl, hxy⟩
     ·exact .inr (hf.prg x y hx hy (.inl hxy) g1 g2)
     ·rcases Nat.lt_or_ge y b with h3 | h3
      ·exact .inr (hf.prg x y hx hy (.inr ⟨rfl, h3⟩) g1 g2)
      ·exact .inl ⟨rfl, by omega⟩
   ·rw [if_neg (eqF h2)]
    exact qc fs hn k a hk ha m (b + 1) t (by omega) (keep fun h => h2 h.2)
  ·rw [if_neg (eqF h1)]
   exact qc fs hn k a hk ha m (b + 1) t (by omega) (keep fun h => h1 h.1)
theorem zx (fs : FS) (hn : fs.length ≤ 65536) (k : Nat) (hk : k < fs.length) : ∀ (m a : Nat) (t : List (List Int)), a + m = fs.length → FW fs t k a 0 → ∃ t', cm t (fs.length : Int) (k : Int) (a : Int) = some t' ∧ FW fs t' k fs.length 0
 | 0, a, t, h, hf => by
  rw [cm, iN (by omega)]
  have : a = fs.length := by omega
  subst this
  exact ⟨t, rfl, hf⟩
 | m + 1, a, t, h, hf => by
  obtain ⟨t1, h1, h2⟩ := qc fs hn k a hk (by omega) fs.length 0 t (by omega) hf
  rw [show ((0 : Nat) : Int) = 0 from rfl] at h1
  rw [cm, iP (by omega), bind_some h1, inc a (by omega)]
  exact zx fs hn k hk m (a + 1) t1 (by omega) ⟨h2.len, h2.row, h2.snd, h2.cpl, fun x y hx hy hxy => h2.prg x y hx hy (by omega)⟩
theorem zy (fs : FS) (hn : fs.length ≤ 65536) : ∀ (m k : Nat) (t : List (List Int)), k + m = fs.length → FW fs t k 0 0 → ∃ t', cn t (fs.length : Int) (k : Int) = some t' ∧ FW fs t' fs.length 0 0
 | 0, k, t, h, hf => by
  rw [cn, iN (by omega)]
  have : k = fs.length := by omega
  subst this
  exact ⟨t, rfl, hf⟩
 | m + 1, k, t, h, hf => by
  obtain ⟨t1, h1, h2⟩ := zx fs hn k (by omega) fs.length 0 t (by omega) hf
  rw [show ((0 : Nat) : Int) = 0 from rfl] at h1
  rw [cn, iP (by omega), bind_some h1, inc k (by omega)]
  refine zy fs hn m (k + 1) t1 (by omega) ⟨h2.len, h2.row, h2.snd, fun x y hx hy hv => ?_, fun x y hx hy hxy => by omega⟩
  rcases hv.succ with hv | ⟨hv1, hv2⟩
  ·exact h2.cpl x y hx hy hv
  ·exact h2.prg x y hx hy (.inl hx) hv1 hv2
theorem CO (p : ae) (hc : eV p.funcs) (f : Nat) (hf : f < p.funcs.length) (hl : (List.getD p.funcs f []).length ≤ 65536) (x0 : List (List Int)) (x6 : Int) : ∀ (m i : Nat) (r : List Int), i + m = (List.getD p.funcs f []).length → r.length = p.funcs.length →
  ∃ r', bT x0 r p.globals p.locks p.slots p.funcs x6 (f : Int) (i : Int) = some r' ∧ r'.length = p.funcs.length ∧ ∀ b, List.getD r' b 0 = 1 ↔ List.getD r b 0 = 1 ∨ ∃ k, i ≤ k ∧ k < (List.getD p.funcs f []).length ∧ (List.getD (List.getD p.funcs f []) k aa).kind = 7 ∧ (List.getD (List.getD p.funcs f []) k aa).arg = (b : Int)
 | 0, i, r, h, hr => by
  rw [bT, iP (by omega), iP (by omega), Int.toNat_natCast, iN (by omega)]
  exact ⟨r, rfl, hr, fun b => ⟨.inl, fun h => h.elim id fun ⟨k, h1, h2, _⟩ => by omega⟩⟩
 | m + 1, i, r, h, hr => by
  rw [bT, iP (by omega), iP (by omega)]
  simp only [Int.toNat_natCast]
  rw [iP (by omega), iP (by omega), iP (by omega), inc i (by omega)]
  by_cases hk : (List.getD (List.getD p.funcs f []) i aa).kind = 7
  ·have harg := hc f i hf (by omega) hk
   obtain ⟨c, hb⟩ : ∃ b : Nat, (List.getD (List.getD p.funcs f []) i aa).arg = (b : Int) := ⟨_, (Int.toNat_of_nonneg harg.1).symm⟩
   rw [if_pos (eqT hk)]
   simp only [hb] at harg ⊢
   rw [iP (by omega), iP (by omega), Int.toNat_natCast]
   obtain ⟨r', q1, q2, q3⟩ := CO p hc f hf hl x0 x6 m (i + 1) (r.set c 1) (by omega) (by simpa using hr)
   refine ⟨r', q1, q2, fun b => ?_⟩
   rw [q3]
   have hset : List.getD (r.set c 1) b 0 = 1 ↔ b = c ∨ List.getD r b 0 = 1 := by
    by_cases hbc : b = c
    ·subst hbc; simp [List.getD, show b < r.length by omega]
    ·have : c ≠ b := fun e => hbc e.symm
     simp [List.getD, List.getElem?_set, this, hbc]
   rw [hset]
   constructor
   ·rintro ((rfl | h1) | ⟨k, k1, k2, k3, k4⟩)
    ·exact .inr ⟨i, Nat.le_refl _, by omega, hk, hb⟩
    ·exact .inl h1
    ·exact .inr ⟨k, by omega, k2, k3, k4⟩
   ·rintro (h1 | ⟨k, k1, k2, k3, k4⟩)
    ·exact .inl (.inr h1)
    ·rcases Nat.eq_or_lt_of_le k1 with rfl | k5
     ·exact .inl (.inl (by omega))
     ·exact .inr ⟨k, k5, k2, k3, k4⟩
  ·rw [if_neg (eqF hk)]
   obtain ⟨r', q1, q2, q3⟩ := CO p hc f hf hl x0 x6 m (i + 1) r (by omega) hr
   refine ⟨r', q1, q2, fun b => ?_⟩
   rw [q3]
   constructor
   ·rintro (h1 | ⟨k, k1, k2, k3, k4⟩)
    ·exact .inl h1
    ·exact .inr ⟨k, by omega, k2, k3, k4⟩
   ·rintro (h1 | ⟨k, k1, k2, k3, k4⟩)
    ·exact .inl h1
    ·rcases Nat.eq_or_lt_of_le k1 with rfl | k5
     ·exact absurd k3 hk
     ·exact .inr ⟨k, k5, k2, k3, k4⟩
theorem jb {α : Type} (t : List α) (x d : α) (a : Nat) : List.getD (t ++ [x]) a d = if a = t.length then x else List.getD t a d := by
 by_cases h : a = t.length
 ·subst h; simp [List.getD]
 ·rw [if_neg h]
  rcases Nat.lt_or_ge a t.length with h1 | h1
  ·simp [List.getD, List.getElem?_append_left h1]
  ·rw [iL (by simp; omega), iL (by omega)]
theorem DJ (p : ae) (hc : eV p.funcs) (hlen : ∀ f, (List.getD p.funcs f []).length ≤ 65536) (hn : p.funcs.length ≤ 65536) : ∀ (m f : Nat) (t : List (List Int)), f + m = p.funcs.length → t.length = f → (∀ x, x < f → (List.getD t x []).length = p.funcs.length) → (∀ x y, x < f → (TB t x y ↔ Edge p.funcs x y)) →
  ∃ t', cN t p.globals p.locks p.slots p.funcs (p.funcs.length : Int) (f : Int) = some t' ∧ t'.length = p.funcs.length ∧ (∀ x, x < p.funcs.length → (List.getD t' x []).length = p.funcs.length) ∧ ∀ x y, x < p.funcs.length → (TB t' x y ↔ Edge p.funcs x y)
 | 0, f, t, h, h1, h2, h3 => by
  rw [cN, iN (by omega)]
  have : f = p.funcs.length := by omega
  subst this
  exact ⟨t, rfl, h1, h2, h3⟩
 | m + 1, f, t, h, h1, h2, h3 => by
  obtain ⟨r, q1, q2, q3⟩ := CO p hc f (by omega) (hlen f) t (p.funcs.length : Int) (List.getD p.funcs f []).length 0 (List.replicate p.funcs.length 0) (by omega) (by simp)
  rw [show ((0 : Nat) : Int) = 0 from rfl] at q1
  rw [cN, iP (by omega), iP (by omega), if_pos (decide_eq_true (by simp only [az]; omega)), Int.toNat_natCast, bind_some q1, if_pos (Nat.ble_eq_true_of_le (by simp only [List.length_singleton, az]; omega)), inc f (by omega)]
  refine DJ p hc hlen hn m (f + 1) (t ++ [r]) (by omega) (by simp [h1]) (fun x hx => ?_) fun x y hx => ?_
  ·rw [jb]
   split
   ·exact q2
   ·exact h2 x (by omega)
  ·unfold TB
   rw [jb]
   split
   ·rename_i e
    rw [q3]
    have e1 : x = f := by omega
    subst e1
    have e2 : List.getD (List.replicate p.funcs.length (0 : Int)) y 0 = 0 := by
     simp only [List.getD, List.getElem?_replicate]
     split <;> rfl
    rw [e2]
    constructor
    ·rintro (h | ⟨k, _, k2, k3, k4⟩)
     ·omega
     ·exact ⟨k, k2, k3, k4⟩
    ·rintro ⟨k, k2, k3, k4⟩
     exact .inr ⟨k, Nat.zero_le _, k2, k3, k4⟩
   ·exact h3 x y (by omega)
theorem FD (p : ae) (hc : eV p.funcs) (hlen : ∀ f, (List.getD p.funcs f []).length ≤ 65536) (hn : p.funcs.length ≤ 65536) : ∃ t, gH p = some t ∧ t.length = p.funcs.length ∧ (∀ x, x < p.funcs.length → (List.getD t x []).length = p.funcs.length) ∧ ∀ x y, x < p.funcs.length → (TB t x y ↔ nQ p.funcs x y) := by
 obtain ⟨t, q1, q2, q3, q4⟩ := DJ p hc hlen hn p.funcs.length 0 [] (by omega) rfl (fun x hx => by omega) (fun x y hx => by omega)
 rw [show ((0 : Nat) : Int) = 0 from rfl] at q1
 have hedge : ∀ x y, TB t x y → Edge p.funcs x y := fun x y h => by
  rcases Nat.lt_or_ge x p.funcs.length with hx | hx
  ·exact (q4 x y hx).1 h
  ·unfold TB at h
   rw [iL (l := t) (by omega)] at h
   simp at h
 obtain ⟨t', g1, g2⟩ := zy p.funcs hn p.funcs.length 0 t (by omega) ⟨q2, q3, fun x y h => ⟨y, hedge x y h, .refl _⟩, fun x y hx hy hv => (q4 x y hx).2 hv.zero, fun x y hx hy h => by omega⟩
 rw [show ((0 : Nat) : Int) = 0 from rfl] at g1
 unfold gH
 rw [bind_some q1, bind_some g1]
 refine ⟨t', rfl, g2.len, g2.row, fun x y hx => ⟨g2.snd x y, ?_⟩⟩
 rintro ⟨c, h1, h2⟩
 have hv := Via.of_path hc h2 x h1
 have hy : y < p.funcs.length := by
  cases h2 with
  | refl _ => exact (h1.lt hc).2
  | step _ d _ e k =>
   clear hv
   have : ∀ {u v : Nat}, ja p.funcs u v → u < p.funcs.length → v < p.funcs.length := fun h => kY (S := fun x => x < p.funcs.length) (fun x _ y e => (e.lt hc).2) h
   exact this k (e.lt hc).2
 exact g2.cpl x y hx hy hv
theorem zz (p : ae) (hc : eV p.funcs) (hlen : ∀ f, (List.getD p.funcs f []).length ≤ 65536) (t : List (List Int)) (ht : t.length = p.funcs.length) (hr : ∀ x, x < p.funcs.length → (List.getD t x []).length = p.funcs.length) (htb : ∀ x y, x < p.funcs.length → (TB t x y ↔ nQ p.funcs x y)) (x5 : Int) (f : Nat) (hf : f < p.funcs.length) :
  ∀ (m i : Nat), i + m = (List.getD p.funcs f []).length → bG t p.globals p.locks p.slots p.funcs x5 (f : Int) (i : Int) = some (match gz (yV p.funcs f) i m with | some k => .x0 k 8 | none => .x1)
 | 0, i, h => by
  rw [bG, iP (by omega), iP (by omega), Int.toNat_natCast, iN (by omega)]
  rfl
 | m + 1, i, h => by
  have ih := zz p hc hlen t ht hr htb x5 f hf m (i + 1) (by omega)
  have hl := hlen f
  rw [bG, iP (by omega), iP (by omega)]
  simp only [Int.toNat_natCast]
  rw [iP (by omega), iP (by omega), iP (by omega), inc i (by omega), ih, zw]
  by_cases hk : (List.getD (List.getD p.funcs f []) i aa).kind = 7
  ·have harg := hc f i hf (by omega) hk
   obtain ⟨b, hb⟩ : ∃ b : Nat, (List.getD (List.getD p.funcs f []) i aa).arg = (b : Int) := ⟨_, (Int.toNat_of_nonneg harg.1).symm⟩
   rw [if_pos (eqT hk)]
   simp only [hb] at harg ⊢
   have hiff : yV p.funcs f i = true ↔ (b = f ∨ TB t b f) := by
    rw [pc]
    constructor
    ·rintro ⟨_, a, h1, h2⟩
     have hab : a = b := by omega
     subst hab
     cases h2 with
     | refl _ => exact .inl rfl
     | step _ c _ e k => exact .inr ((htb a f (by omega)).2 ⟨c, e, k⟩)
    ·intro h1
     refine ⟨hk, b, hb, ?_⟩
     rcases h1 with rfl | h1
     ·exact .refl _
     ·obtain ⟨c, e, k⟩ := (htb b f (by omega)).1 h1
      exact .step _ _ _ e k
   by_cases hbf : b = f
   ·rw [if_pos (eqT (by omega)), if_pos (hiff.2 (.inl hbf))]
   ·have hrb := hr b (by omega)
    rw [if_neg (eqF (by omega)), iP (by omega), iP (by omega), Int.toNat_natCast, iP (by omega)]
    by_cases h2 : TB t b f
    ·rw [if_pos (eqT h2), if_pos (hiff.2 (.inr h2))]
    ·rw [if_neg (eqF h2), if_neg (fun h => (hiff.1 h).elim hbf h2)]
  ·rw [if_neg (eqF hk), if_neg (fun h => hk (pc.1 h).1)]
theorem zA (p : ae) (hc : eV p.funcs) (hlen : ∀ f, (List.getD p.funcs f []).length ≤ 65536) (hn : p.funcs.length ≤ 65536) (t : List (List Int)) (ht : t.length = p.funcs.length) (hr : ∀ x, x < p.funcs.length → (List.getD t x []).length = p.funcs.length) (htb : ∀ x y, x < p.funcs.length → (TB t x y ↔ nQ p.funcs x y)) :
  ∀ (m i : Nat), i + m = p.funcs.length → co t p.globals p.locks p.slots p.funcs (p.funcs.length : Int) (i : Int) = some (match kt (FC p.funcs) i m with | some (f, k) => .x0 f k 8 | none => .x1)
 | 0, i, h => by rw [co, iN (by omega)]; rfl
 | m + 1, i, h => by
  have ih := zA p hc hlen hn t ht hr htb m (i + 1) (by omega)
  have h2 := zz p hc hlen t ht hr htb (p.funcs.length : Int) i (by omega) (List.getD p.funcs i []).length 0 (by omega)
  rw [show ((0 : Nat) : Int) = 0 from rfl] at h2
  rw [co, iP (by omega), bind_some h2, inc i (by omega), ih, w8]
  unfold FC
  cases gz (yV p.funcs i) 0 (List.getD p.funcs i []).length with
  | some k => rfl
  | none => rfl
structure dI (p : ae) : Prop where
 globals : 0 ≤ p.globals ∧ p.globals ≤ 16
 locks : 0 ≤ p.locks ∧ p.locks ≤ 16
 slots : 0 ≤ p.slots ∧ p.slots ≤ 8
 funcs : 0 < p.funcs.length ∧ p.funcs.length ≤ 16
 len : ∀ f, f < p.funcs.length → 0 < (List.getD p.funcs f []).length ∧ (List.getD p.funcs f []).length ≤ 64
 node : ∀ f i, f < p.funcs.length → i < (List.getD p.funcs f []).length → nt p (List.getD (List.getD p.funcs f []) i aa) ((List.getD p.funcs f []).length : Int)
 acyc : ∀ f i, f < p.funcs.length → i < (List.getD p.funcs f []).length → ¬ Bad p.funcs f i
theorem dI.calls {p : ae} (h : dI p) : eV p.funcs := fun f i h1 h2 h3 => (h.node f i h1 h2).call h3
theorem dI.le {p : ae} (h : dI p) (f : Nat) : (List.getD p.funcs f []).length ≤ 64 := by
 rcases Nat.lt_or_ge f p.funcs.length with h1 | h1
 ·exact (h.len f h1).2
 ·rw [iL h1]; simp
theorem FE (p : ae) : ∃ r, bM p = some r ∧ gI p = some r ∧ (r.2.2 = 0 → r = (0, 0, 0) ∧ dI p) ∧ 0 ≤ r.2.2 ∧ r.2.2 ≤ 8 := by
 unfold bM gI
 have out : ∀ (c : Bool) (v : Int × Int × Int) (a b : Option (Int × Int × Int)), (¬ c = true → ∃ r, a = some r ∧ b = some r ∧ (r.2.2 = 0 → r = (0, 0, 0) ∧ dI p) ∧ 0 ≤ r.2.2 ∧ r.2.2 ≤ 8) → v.2.2 ≠ 0 → 0 ≤ v.2.2 → v.2.2 ≤ 8 → ∃ r, (if c = true then some v else a) = some r ∧ (if c = true then some v else b) = some r ∧ (r.2.2 = 0 → r = (0, 0, 0) ∧ dI p) ∧ 0 ≤ r.2.2 ∧ r.2.2 ≤ 8 := by
  intro c v a b h hv h0 h8
  by_cases hc : c = true
  ·rw [if_pos hc, if_pos hc]; exact ⟨v, rfl, rfl, fun h => absurd h hv, h0, h8⟩
  ·rw [if_neg hc, if_neg hc]; exact h hc
 refine out _ _ _ _ (fun c1 => ?_) (by decide) (by decide) (by decide)
 refine out _ _ _ _ (fun c2 => ?_) (by decide) (by decide) (by decide)
 refine out _ _ _ _ (fun c3 => ?_) (by decide) (by decide) (by decide)
 refine out _ _ _ _ (fun c4 => ?_) (by decide) (by decide) (by decide)
 refine out _ _ _ _ (fun c5 => ?_) (by decide) (by decide) (by decide)
 refine out _ _ _ _ (fun c6 => ?_) (by decide) (by decide) (by decide)
 refine out _ _ _ _ (fun c7 => ?_) (by decide) (by decide) (by decide)
 refine out _ _ _ _ (fun c8 => ?_) (by decide) (by decide) (by decide)
 simp only [decide_eq_true_eq, beq_iff_eq] at c1 c2 c3 c4 c5 c6 c7 c8
 have h1 := Bj p (by omega) p.funcs.length 0 (by omega)
 have h2 := Bk p (by omega) p.funcs.length 0 (by omega)
 rw [show ((0 : Nat) : Int) = 0 from rfl] at h1 h2
 rw [bind_some h1, bind_some h2]
 cases hb : kt (rN p) 0 p.funcs.length with
 | some x =>
  obtain ⟨f, a, b⟩ := x
  have hx := (w6 hb).2.2
  have hb0 : b ≠ 0 ∧ 0 ≤ b ∧ b ≤ 8 := by
   unfold rN at hx
   split at hx
   ·cases hx; decide
   ·split at hx
    ·cases hx; decide
    ·cases hq : gz (fun i => !oC p (List.getD p.funcs f []) i) 0 (List.getD p.funcs f []).length with
     | none => rw [hq] at hx; cases hx
     | some k => rw [hq] at hx; cases hx; decide
  exact ⟨(f, a, b), rfl, rfl, fun h => absurd h hb0.1, hb0.2⟩
 | none =>
  have hno := rM hb
  have hgood1 : ∀ f, f < p.funcs.length → 0 < (List.getD p.funcs f []).length ∧ (List.getD p.funcs f []).length ≤ 64 ∧ ∀ i, i < (List.getD p.funcs f []).length → oC p (List.getD p.funcs f []) i = true := by
   intro f hf
   have := hno f (Nat.zero_le _) (by omega)
   unfold rN at this
   split at this
   ·cases this
   ·split at this
    ·cases this
    ·rename_i g1 g2
     refine ⟨by omega, by omega, fun i hi => ?_⟩
     cases hq : gz (fun i => !oC p (List.getD p.funcs f []) i) 0 (List.getD p.funcs f []).length with
     | some k => rw [hq] at this; cases this
     | none =>
      have := uh hq i (Nat.zero_le _) (by omega)
      simpa using this
  have hnode : ∀ f i, f < p.funcs.length → i < (List.getD p.funcs f []).length → nt p (List.getD (List.getD p.funcs f []) i aa) ((List.getD p.funcs f []).length : Int) := fun f i hf hi => G6 ((hgood1 f hf).2.2 i hi)
  have hc : eV p.funcs := fun f i g1 g2 g3 => (hnode f i g1 g2).call g3
  have hlen : ∀ f, (List.getD p.funcs f []).length ≤ 65536 := fun f => by
   rcases Nat.lt_or_ge f p.funcs.length with g | g
   ·have := (hgood1 f g).2.1; omega
   ·rw [iL g]; simp
  obtain ⟨t, t1, t2, t3, t4⟩ := FD p hc hlen (by omega)
  have h3 := Bn p hc hlen (by omega) p.funcs.length 0 (by omega)
  have h4 := zA p hc hlen (by omega) t t2 t3 t4 p.funcs.length 0 (by omega)
  rw [show ((0 : Nat) : Int) = 0 from rfl] at h3 h4
  unfold rX
  rw [h3, t1]
  simp only [bind, Option.bind_some]
  rw [h4]
  simp only [Option.bind_some]
  cases hq : kt (FC p.funcs) 0 p.funcs.length with
  | some x => exact ⟨((x.1 : Int), (x.2 : Int), 8), rfl, rfl, (fun h => by cases h), show (0 : Int) ≤ 8 by decide, show (8 : Int) ≤ 8 by decide⟩
  | none =>
   have hno2 := rM hq
   refine ⟨(0, 0, 0), rfl, rfl, fun _ => ⟨rfl, by omega, by omega, by omega, by omega, fun f hf => ⟨(hgood1 f hf).1, (hgood1 f hf).2.1⟩, hnode, fun f i hf hi hbad => ?_⟩, by decide, by decide⟩
   have := uh (hno2 f (Nat.zero_le _) (by omega)) i (Nat.zero_le _) (by omega)
   rw [pc.2 hbad] at this
   cases this
theorem FF (p : ae) : ∃ b, gP p = some b ∧ (b = true → p.funcs.length ≤ 40 ∧ ∀ f, (List.getD p.funcs f []).length ≤ 100) := by
 unfold gP
 by_cases h : (p.funcs.length : Int) > 40
 ·rw [if_pos (decide_eq_true h)]
  exact ⟨false, rfl, (fun h => by cases h)⟩
 ·rw [if_neg (by simpa using h)]
  have key : ∀ (m i : Nat), i + m = p.funcs.length → b6 p.globals p.locks p.slots p.funcs (i : Int) = some (.x0 false) ∨ (b6 p.globals p.locks p.slots p.funcs (i : Int) = some .x1 ∧ ∀ f, i ≤ f → (List.getD p.funcs f []).length ≤ 100) := by
   intro m
   induction m with
   | zero =>
    intro i hi
    rw [b6, iN (by omega)]
    exact .inr ⟨rfl, fun f hf => by rw [iL (by omega)]; simp⟩
   | succ m ih =>
    intro i hi
    rw [b6, iP (by omega), iP (by omega), iP (by omega), Int.toNat_natCast, inc i (by omega)]
    by_cases h1 : ((List.getD p.funcs i []).length : Int) > 100
    ·rw [if_pos (decide_eq_true h1)]; exact .inl rfl
    ·rw [if_neg (by simpa using h1)]
     rcases ih (i + 1) (by omega) with h2 | ⟨h2, h3⟩
     ·exact .inl h2
     ·refine .inr ⟨h2, fun f hf => ?_⟩
      rcases Nat.eq_or_lt_of_le hf with rfl | hf
      ·omega
      ·exact h3 f hf
  have h1 := key p.funcs.length 0 (by omega)
  rw [show ((0 : Nat) : Int) = 0 from rfl] at h1
  rcases h1 with h2 | ⟨h2, h3⟩
  ·rw [bind_some h2]; exact ⟨false, rfl, (fun h => by cases h)⟩
  ·rw [bind_some h2]; exact ⟨true, rfl, fun _ => ⟨by omega, fun f => h3 f (Nat.zero_le _)⟩⟩
abbrev W32 := BitVec 32
theorem HU {a b : W32} (h : ∀ i, i < 32 → (a.getLsbD i = true ↔ b.getLsbD i = true)) : a = b := by
 apply BitVec.eq_of_getLsbD_eq
 intro i hi
 rw [Bool.eq_iff_iff]
 exact h i hi
theorem vg {a : W32} : a ≠ 0#32 ↔ ∃ i, a.getLsbD i = true := by
 constructor
 ·intro h
  apply Classical.byContradiction
  intro hn
  exact h (HU fun i _ => ⟨fun hi => absurd ⟨i, hi⟩ hn, fun hi => by simp at hi⟩)
 ·rintro ⟨i, hi⟩ rfl
  simp at hi
def one (id : Int) : W32 := if 0 ≤ id ∧ id < 32 then (1#32) <<< id.toNat else 0#32
theorem nv (id : Int) : fY id = some (one id) := by
 unfold fY one
 by_cases h0 : id < 0
 ·rw [if_pos (decide_eq_true h0), if_neg (by omega)]
 ·rw [if_neg (by simpa using h0)]
  by_cases h1 : id ≥ 32
  ·rw [if_pos (decide_eq_true h1), if_neg (by omega)]
  ·rw [if_neg (by simpa using h1), iP (by omega), if_pos (by omega)]
theorem ik (id : Int) (i : Nat) : (one id).getLsbD i = true ↔ id = (i : Int) ∧ i < 32 := by
 unfold one
 split
 ·rename_i h
  simp only [BitVec.getLsbD_shiftLeft, Bool.and_eq_true, decide_eq_true_eq, Bool.not_eq_true', decide_eq_false_iff_not, BitVec.getLsbD_one]
  omega
 ·rename_i h
  simp
  omega
theorem w9 (k : Int) (l : List ab) (hl : l.length ≤ 65536) : ∀ (m i : Nat) (x : W32), i + m = l.length → ∃ x', eF k x l (l.length : Int) (i : Int) = some x' ∧ ∀ b, x'.getLsbD b = true ↔ x.getLsbD b = true ∨ (b < 32 ∧ ∃ j, i ≤ j ∧ j < l.length ∧ (List.getD l j aa).kind = k ∧ (List.getD l j aa).arg = (b : Int))
 | 0, i, x, h => by
  rw [eF, iN (by omega)]
  exact ⟨x, rfl, fun b => ⟨.inl, fun h => h.elim id fun ⟨_, j, h1, h2, _⟩ => by omega⟩⟩
 | m + 1, i, x, h => by
  rw [eF, iP (by omega), iP (by omega), iP (by omega), Int.toNat_natCast, inc i (by omega)]
  by_cases hk : (List.getD l i aa).kind = k
  ·rw [if_pos (eqT hk), bind_some (nv _)]
   obtain ⟨x', q1, q2⟩ := w9 k l hl m (i + 1) (x ||| one (List.getD l i aa).arg) (by omega)
   refine ⟨x', q1, fun b => ?_⟩
   rw [q2, BitVec.getLsbD_or, Bool.or_eq_true, ik]
   constructor
   ·rintro ((h1 | ⟨h1, h2⟩) | ⟨h1, j, h2, h3⟩)
    ·exact .inl h1
    ·exact .inr ⟨h2, i, Nat.le_refl _, by omega, hk, h1⟩
    ·exact .inr ⟨h1, j, by omega, h3⟩
   ·rintro (h1 | ⟨h1, j, h2, h3, h4, h5⟩)
    ·exact .inl (.inl h1)
    ·rcases Nat.eq_or_lt_of_le h2 with rfl | h6
     ·exact .inl (.inr ⟨h5, h1⟩)
     ·exact .inr ⟨h1, j, h6, h3, h4, h5⟩
  ·rw [if_neg (eqF hk)]
   obtain ⟨x', q1, q2⟩ := w9 k l hl m (i + 1) x (by omega)
   refine ⟨x', q1, fun b => ?_⟩
   rw [q2]
   constructor
   ·rintro (h1 | ⟨h1, j, h2, h3⟩)
    ·exact .inl h1
    ·exact .inr ⟨h1, j, by omega, h3⟩
   ·rintro (h1 | ⟨h1, j, h2, h3, h4, h5⟩)
    ·exact .inl h1
    ·rcases Nat.eq_or_lt_of_le h2 with rfl | h6
     ·exact absurd h4 hk
     ·exact .inr ⟨h1, j, h6, h3, h4, h5⟩
theorem Bo (l : List ab) (k : Int) (hl : l.length ≤ 65536) : ∃ x, jz l k = some x ∧ ∀ b, x.getLsbD b = true ↔ b < 32 ∧ ∃ j, j < l.length ∧ (List.getD l j aa).kind = k ∧ (List.getD l j aa).arg = (b : Int) := by
 obtain ⟨x, q1, q2⟩ := w9 k l hl l.length 0 0#32 (by omega)
 rw [show ((0 : Nat) : Int) = 0 from rfl] at q1
 unfold jz
 rw [bind_some q1]
 exact ⟨x, rfl, fun b => by rw [q2]; simp⟩
theorem xa (fs : FS) (hn : fs.length ≤ 65536) (hlen : ∀ f, (List.getD fs f []).length ≤ 65536) : ∀ (m f : Nat) (t : List W32), f + m = fs.length → t.length = f → (∀ x b, x < f → ((List.getD t x 0#32).getLsbD b = true ↔ b < 32 ∧ Edge fs x b)) →
  ∃ t', em t fs (fs.length : Int) (f : Int) = some t' ∧ t'.length = fs.length ∧ ∀ x b, x < fs.length → ((List.getD t' x 0#32).getLsbD b = true ↔ b < 32 ∧ Edge fs x b)
 | 0, f, t, h, h1, h2 => by
  rw [em, iN (by omega)]
  exact ⟨t, rfl, by omega, fun x b hx => h2 x b (by omega)⟩
 | m + 1, f, t, h, h1, h2 => by
  obtain ⟨x, q1, q2⟩ := Bo (List.getD fs f []) 7 (hlen f)
  rw [em, iP (by omega), iP (by omega), iP (by omega), Int.toNat_natCast, bind_some q1, if_pos (Nat.ble_eq_true_of_le (by simp only [List.length_singleton, az]; omega)), inc f (by omega)]
  refine xa fs hn hlen m (f + 1) (t ++ [x]) (by omega) (by simp [h1]) fun y b hy => ?_
  rw [jb]
  split
  ·rename_i e
   rw [q2]
   have : y = f := by omega
   subst this
   exact Iff.rfl
  ·exact h2 y b (by omega)
theorem xb (p : ae) (hn : p.funcs.length ≤ 65536) (hlen : ∀ f, (List.getD p.funcs f []).length ≤ 65536) : ∃ t, gm p = some t ∧ t.length = p.funcs.length ∧ ∀ x b, x < p.funcs.length → ((List.getD t x 0#32).getLsbD b = true ↔ b < 32 ∧ Edge p.funcs x b) := by
 obtain ⟨t, q1, q2⟩ := xa p.funcs hn hlen p.funcs.length 0 [] (by omega) rfl (fun x b hx => by omega)
 rw [show ((0 : Nat) : Int) = 0 from rfl] at q1
 unfold gm
 rw [bind_some q1]
 exact ⟨t, rfl, q2⟩
def gi (f : Nat → Bool) : Nat → Nat
 | 0 => 0
 | n + 1 => gi f n + (f n).toNat
theorem gA {f g : Nat → Bool} : ∀ {n : Nat}, (∀ i, i < n → f i = g i) → gi f n = gi g n
 | 0, _ => rfl
 | n + 1, h => by
  show gi f n + (f n).toNat = gi g n + (g n).toNat
  rw [gA fun i hi => h i (by omega), h n (by omega)]
theorem qd (f : Nat → Bool) : ∀ n, gi f n ≤ n
 | 0 => Nat.le_refl _
 | n + 1 => by
  have := qd f n
  show gi f n + (f n).toNat ≤ n + 1
  have : (f n).toNat ≤ 1 := Bool.toNat_le _
  omega
theorem qe {f : Nat → Bool} : ∀ {n : Nat}, gi f n = 0 ↔ ∀ i, i < n → f i = false
 | 0 => ⟨fun _ i hi => by omega, fun _ => rfl⟩
 | n + 1 => by
  show gi f n + (f n).toNat = 0 ↔ _
  constructor
  ·intro h i hi
   have h1 : gi f n = 0 := by omega
   have h2 : (f n).toNat = 0 := by omega
   by_cases hin : i = n
   ·subst hin; cases hf : f i with
    | false => rfl
    | true => rw [hf] at h2; cases h2
   ·exact qe.1 h1 i (by omega)
  ·intro h
   rw [qe.2 fun i hi => h i (by omega), h n (by omega)]
   rfl
theorem xc {f g : Nat → Bool} {k : Nat} : ∀ {n : Nat}, k < n → f k = true → g k = false → (∀ i, i ≠ k → g i = f i) → gi g n + 1 = gi f n
 | 0, h, _, _, _ => by omega
 | n + 1, h, h1, h2, h3 => by
  show gi g n + (g n).toNat + 1 = gi f n + (f n).toNat
  by_cases hk : k = n
  ·subst hk
   rw [gA (f := g) (g := f) fun i hi => h3 i (by omega), h1, h2]
   rfl
  ·have := xc (n := n) (by omega) h1 h2 h3
   rw [h3 n (fun e => hk e.symm)]
   omega
theorem wo : ∀ v, v < 256 → (aW gD v).toNat = gi (fun i => v.testBit i) 8 := by decide +kernel
theorem FG : ByteArray.size gD = 256 := by decide +kernel
theorem sN (f : Nat → Bool) (n : Nat) : ∀ m, gi f (n + m) = gi f n + gi (fun i => f (n + i)) m
 | 0 => rfl
 | m + 1 => by
  show gi f (n + m) + (f (n + m)).toNat = gi f n + (gi (fun i => f (n + i)) m + (f (n + m)).toNat)
  rw [sN f n m]
  omega
theorem G8 (x : W32) : fo x = some ((gi (fun i => x.getLsbD i) 32 : Nat) : Int) := by
 unfold fo
 have e24 : BitVec.toNat (24#64) = 24 := rfl
 have e16 : BitVec.toNat (16#64) = 16 := rfl
 have e8 : BitVec.toNat (8#64) = 8 := rfl
 rw [e24, e16, e8]
 have hb : ∀ (y : W32), (y &&& 255#32).toNat < 256 := fun y => by
  rw [BitVec.toNat_and]
  exact Nat.lt_of_le_of_lt Nat.and_le_right (by decide)
 have h24 : (x >>> 24).toNat < 256 := by
  rw [BitVec.toNat_ushiftRight, Nat.shiftRight_eq_div_pow]
  have := x.isLt
  omega
 have b24 : gi (fun i => (x >>> 24).toNat.testBit i) 8 = gi (fun i => x.getLsbD (24 + i)) 8 := gA fun i hi => by
  show (x >>> 24).getLsbD i = _
  rw [BitVec.getLsbD_ushiftRight]
 have b255 : ∀ (y : W32) i, i < 8 → (y &&& 255#32).toNat.testBit i = y.getLsbD i := fun y i hi => by
  show (y &&& 255#32).getLsbD i = _
  rw [BitVec.getLsbD_and]
  have : (255#32).getLsbD i = true := by
   have : ∀ i, i < 8 → (255#32).getLsbD i = true := by decide
   exact this i hi
  rw [this, Bool.and_true]
 have b16 : gi (fun i => (x >>> 16 &&& 255#32).toNat.testBit i) 8 = gi (fun i => x.getLsbD (16 + i)) 8 := gA fun i hi => by
  rw [b255 _ i hi, BitVec.getLsbD_ushiftRight]
 have b8 : gi (fun i => (x >>> 8 &&& 255#32).toNat.testBit i) 8 = gi (fun i => x.getLsbD (8 + i)) 8 := gA fun i hi => by
  rw [b255 _ i hi, BitVec.getLsbD_ushiftRight]
 have b0 : gi (fun i => (x &&& 255#32).toNat.testBit i) 8 = gi (fun i => x.getLsbD i) 8 := gA fun i hi => b255 _ i hi
 rw [FG, iP (by omega), if_pos (decide_eq_true (by have := hb (x >>> 16); omega)), if_pos (decide_eq_true (by have := hb (x >>> 8); omega)), if_pos (decide_eq_true (by have := hb x; omega))]
 have t24 := wo _ h24
 have t16 := wo _ (hb (x >>> 16))
 have t8 := wo _ (hb (x >>> 8))
 have t0 := wo _ (hb x)
 rw [b24] at t24
 rw [b16] at t16
 rw [b8] at t8
 rw [b0] at t0
 have hs : gi (fun i => x.getLsbD i) 32 = gi (fun i => x.getLsbD i) 8 + gi (fun i => x.getLsbD (8 + i)) 8 + gi (fun i => x.getLsbD (16 + i)) 8 + gi (fun i => x.getLsbD (24 + i)) 8 := by
  have h1 := sN (fun i => x.getLsbD i) 24 8
  have h2 := sN (fun i => x.getLsbD i) 16 8
  have h3 := sN (fun i => x.getLsbD i) 8 8
  simp only [Nat.reduceAdd] at h1 h2 h3
  omega
 have l24 := qd (fun i => x.getLsbD (24 + i)) 8
 have l16 := qd (fun i => x.getLsbD (16 + i)) 8
 have l8 := qd (fun i => x.getLsbD (8 + i)) 8
 have l0 := qd (fun i => x.getLsbD i) 8
 congr 1
 rw [hs]
 simp only [BitVec.toNat_add]
 rw [t24, t16, t8, t0]
 omega
theorem FH (x : W32) : nE x = some ((gi (fun i => x.getLsbD i) 32 : Nat) : Int) := by
 unfold nE
 rw [bind_some (G8 x)]
theorem FI (m : W32) (id : Int) : gE m id = some (if 0 ≤ id ∧ id < 32 then m.getLsbD id.toNat else false) := by
 unfold gE
 by_cases h0 : id ≥ 0
 ·rw [if_pos (decide_eq_true h0)]
  by_cases h1 : id < 32
  ·rw [if_pos (decide_eq_true h1), iP (by omega), if_pos (by omega)]
   congr 1
   rw [Bool.eq_iff_iff, beq_iff_eq]
   constructor
   ·intro h
    have := congrArg (fun v => BitVec.getLsbD v 0) h
    simpa using this
   ·intro h
    apply HU
    intro i hi
    rw [BitVec.getLsbD_and, BitVec.getLsbD_ushiftRight, BitVec.getLsbD_one]
    by_cases h2 : i = 0
    ·subst h2; simp [h]
    ·simp [h2]
  ·rw [if_neg (by simpa using h1), if_neg (by omega)]
 ·rw [if_neg (by simpa using h0), if_neg (by omega)]
theorem zB (k : Nat) (hk : k < 32) : ∀ (m i : Nat) (x : BitVec 64), i + m = k → dP (k : Int) x (i : Int) = some (x >>> m)
 | 0, i, x, h => by
  rw [dP, iN (by omega)]
  simp
 | m + 1, i, x, h => by
  rw [dP, iP (by omega), inc i (by omega), zB k hk m (i + 1) _ (by omega)]
  congr 1
  apply BitVec.eq_of_toNat_eq
  simp only [BitVec.toNat_ushiftRight, BitVec.toNat_udiv, Nat.shiftRight_eq_div_pow]
  rw [show (2#64).toNat = 2 from rfl, Nat.div_div_eq_div_mul, Nat.pow_succ, Nat.mul_comm]
theorem qf (m : W32) (id : Int) : dQ m id = some (if 0 ≤ id ∧ id < 32 then m.getLsbD id.toNat else false) := by
 unfold dQ
 by_cases h0 : id < 0
 ·rw [if_pos (decide_eq_true h0), if_neg (by omega)]
 ·rw [if_neg (by simpa using h0)]
  by_cases h1 : id > 31
  ·rw [if_pos (decide_eq_true h1), if_neg (by omega)]
  ·rw [if_neg (by simpa using h1), if_pos (by omega)]
   obtain ⟨k, rfl⟩ : ∃ k : Nat, id = (k : Int) := ⟨id.toNat, by omega⟩
   have := zB k (by omega) k 0 (BitVec.setWidth 64 m) (by omega)
   rw [show ((0 : Nat) : Int) = 0 from rfl] at this
   rw [bind_some this, Int.toNat_natCast]
   congr 1
   rw [Bool.eq_iff_iff, beq_iff_eq]
   have e : ((BitVec.setWidth 64 m >>> k) % 2#64).toNat = (m.getLsbD k).toNat := by
    have e1 : (BitVec.setWidth 64 m).toNat = m.toNat := by
     rw [BitVec.toNat_setWidth]
     exact Nat.mod_eq_of_lt (by have := m.isLt; omega)
    rw [BitVec.toNat_umod, BitVec.toNat_ushiftRight, e1]
    show m.toNat >>> k % 2 = (m.toNat.testBit k).toNat
    rw [Nat.toNat_testBit, Nat.shiftRight_eq_div_pow]
   constructor
   ·intro h
    rw [h] at e
    cases hm : m.getLsbD k with
    | true => rfl
    | false => rw [hm] at e; cases e
   ·intro h
    apply BitVec.eq_of_toNat_eq
    rw [e, h]
    rfl
def gj : Nat → List Int → Prop
 | _, [] => True
 | n, x :: l => (n : Int) ≤ x ∧ x < 32 ∧ gj (x.toNat + 1) l
theorem DK (l : List Int) (x1 : BitVec 64) (i k : Nat) (hi : i < l.length) (hk : List.getD l i 0 = (k : Int)) (hk32 : k < 32) : ∀ (m j : Nat), j + m = k → ct l x1 (i : Int) (BitVec.ofNat 64 (2 ^ j)) (j : Int) = some (BitVec.ofNat 64 (2 ^ k))
 | 0, j, h => by
  rw [ct, iP (by omega), iP (by omega), Int.toNat_natCast, hk, iN (by omega)]
  have : j = k := by omega
  rw [this]
 | m + 1, j, h => by
  rw [ct, iP (by omega), iP (by omega), Int.toNat_natCast, hk, iP (by omega), inc j (by omega)]
  have e : BitVec.ofNat 64 (2 ^ j) * 2#64 = BitVec.ofNat 64 (2 ^ (j + 1)) := by
   rw [Nat.pow_succ]
   apply BitVec.eq_of_toNat_eq
   simp
  rw [e]
  exact DK l x1 i k hi hk hk32 m (j + 1) (by omega)
theorem DL (l : List Int) (hl : l.length ≤ 65536) : ∀ (m i n : Nat) (x : Nat), i + m = l.length → gj n (l.drop i) → n ≤ 32 → x < 2 ^ n → ∃ x', cu l (BitVec.ofNat 64 x) (i : Int) = some (BitVec.ofNat 64 x') ∧ x' < 2 ^ 32 ∧ ∀ b, x'.testBit b = true ↔ x.testBit b = true ∨ (b : Int) ∈ l.drop i
 | 0, i, n, x, h, hr, hn, hx => by
  rw [cu, iN (by omega), List.drop_eq_nil_of_le (by omega)]
  exact ⟨x, rfl, Nat.lt_of_lt_of_le hx (Nat.pow_le_pow_right (by decide) hn), fun b => by simp⟩
 | m + 1, i, n, x, h, hr, hn, hx => by
  have hlt : i < l.length := by omega
  have hd : l.drop i = l[i] :: l.drop (i + 1) := List.drop_eq_getElem_cons hlt
  have hg : List.getD l i 0 = l[i] := by simp [List.getD, hlt]
  rw [hd] at hr ⊢
  obtain ⟨r1, r2, r3⟩ := hr
  obtain ⟨k, hk⟩ : ∃ k : Nat, l[i] = (k : Int) := ⟨l[i].toNat, by omega⟩
  rw [hk] at r1 r2 r3 hg ⊢
  rw [Int.toNat_natCast] at r3
  have h7 := DK l (BitVec.ofNat 64 x) i k hlt hg (by omega) k 0 (by omega)
  rw [show ((0 : Nat) : Int) = 0 from rfl] at h7
  rw [cu, iP (by omega), bind_some (show ct l (BitVec.ofNat 64 x) (i : Int) (1#64) 0 = _ from h7), inc i (by omega), ← BitVec.ofNat_add]
  have hxk : x < 2 ^ k := Nat.lt_of_lt_of_le hx (Nat.pow_le_pow_right (by decide) (by omega))
  obtain ⟨x', q1, q2, q3⟩ := DL l hl m (i + 1) (k + 1) (x + 2 ^ k) (by omega) r3 (by omega) (by rw [Nat.pow_succ]; omega)
  refine ⟨x', q1, q2, fun b => ?_⟩
  rw [q3]
  have hor : x + 2 ^ k = 2 ^ k ||| x := by
   have := Nat.two_pow_add_eq_or_of_lt hxk 1
   rw [Nat.mul_one] at this
   rw [Nat.add_comm, this]
  rw [hor, Nat.testBit_or, Bool.or_eq_true, Nat.testBit_two_pow, decide_eq_true_eq, List.mem_cons]
  constructor
  ·rintro ((h1 | h1) | h1)
   ·exact .inr (.inl (by omega))
   ·exact .inl h1
   ·exact .inr (.inr h1)
  ·rintro (h1 | h1 | h1)
   ·exact .inl (.inr h1)
   ·exact .inl (.inl (by omega))
   ·exact .inr h1
theorem wz (l : List Int) (hl : l.length ≤ 65536) (hr : gj 0 l) : ∃ x, ij l = some x ∧ ∀ b, x.getLsbD b = true ↔ (b : Int) ∈ l := by
 obtain ⟨x, q1, q2, q3⟩ := DL l hl l.length 0 0 0 (by omega) (by simpa using hr) (by omega) (by decide)
 unfold ij
 rw [bind_some (show cu l (0#64) 0 = _ from q1)]
 refine ⟨_, rfl, fun b => ?_⟩
 have e : (BitVec.setWidth 32 (BitVec.ofNat 64 x)).toNat = x := by
  rw [BitVec.toNat_setWidth, BitVec.toNat_ofNat]
  omega
 show (BitVec.setWidth 32 (BitVec.ofNat 64 x)).toNat.testBit b = true ↔ _
 rw [e, q3]
 simp
def swp (l : List Int) (i k : Nat) : List Int := List.set (List.set l i (List.getD l k 0)) k (List.getD l i 0)
theorem wA (l : List Int) (i k : Nat) : (swp l i k).length = l.length := by simp [swp]
theorem xd (l : List Int) (i k : Nat) (hi : i < l.length) (hk : k < l.length) : (swp l i k).Perm l := by
 refine List.perm_iff_count.2 fun a => ?_
 have e1 : l.getD k 0 = l[k] := by simp [List.getD, hk]
 have e2 : l.getD i 0 = l[i] := by simp [List.getD, hi]
 unfold swp
 rw [e1, e2, List.count_set (by simpa using hk), List.count_set hi, List.getElem_set]
 have c1 : 0 < l.count l[i] := List.count_pos_iff.2 (List.getElem_mem hi)
 have c2 : 0 < l.count l[k] := List.count_pos_iff.2 (List.getElem_mem hk)
 by_cases hik : i = k
 ·subst hik
  simp only [if_true]
  by_cases ha : l[i] = a
  ·subst ha; simp
  ·have : (l[i] == a) = false := by simpa using ha
   simp [this]
 ·rw [if_neg hik]
  by_cases ha : l[i] = a <;> by_cases hb : l[k] = a
  ·simp [ha, hb]; subst ha; omega
  ·simp [ha, hb]; subst ha; omega
  ·simp [ha, hb]
  ·simp [ha, hb]
theorem Au (l : List Int) (i k : Int) (hi : 0 ≤ i) (hi' : i < l.length) (hk : 0 ≤ k) (hk' : k < l.length) : dT l i k = some (decide (List.getD l i.toNat 0 < List.getD l k.toNat 0)) := by
 unfold dT
 rw [if_pos (decide_eq_true hi), if_pos (decide_eq_true hi'), if_pos (decide_eq_true hk), if_pos (decide_eq_true hk')]
theorem Av (l : List Int) (i k : Int) (hi : 0 ≤ i) (hi' : i < l.length) (hk : 0 ≤ k) (hk' : k < l.length) : dU l i k = some (swp l i.toNat k.toNat) := by
 unfold dU
 rw [if_pos (decide_eq_true hk), if_pos (decide_eq_true hk'), if_pos (decide_eq_true hi), if_pos (decide_eq_true hi')]
 rfl
theorem HV : ∀ (n : Nat) (l : List Int) (j : Int), j.toNat ≤ n → 0 ≤ j → j < l.length → l.length ≤ 1000000 → ∃ l', jf l j = some l' ∧ l'.Perm l
 | n, l, j, hn, h0, hj, hl => by
  rw [jf]
  rcases Int.lt_or_le j 1 with hj1 | hj1
  ·have : j = 0 := by omega
   subst this
   rw [if_pos (by decide)]
   exact ⟨l, rfl, .refl _⟩
  ·have e1 : aF j 1 = j - 1 := io (by omega) (by omega)
   have e3 : (j - 1).tdiv 2 = (j - 1) / 2 := Int.tdiv_eq_ediv_of_nonneg (by omega)
   have e2 : tP (aF j 1) 2 = (j - 1) / 2 := by
    rw [e1]
    unfold tP
    rw [e3]
    exact uT (by omega) (by omega)
   rw [e2]
   have hi0 : 0 ≤ (j - 1) / 2 := by omega
   have hi1 : (j - 1) / 2 < j := by omega
   rw [if_neg (eqF (by omega)), bind_some (Au l j ((j - 1) / 2) h0 hj hi0 (by omega))]
   split
   ·exact ⟨l, rfl, .refl _⟩
   ·rw [bind_some (Av l _ _ hi0 (by omega) h0 hj)]
    have hp := xd l ((j - 1) / 2).toNat j.toNat (by omega) (by omega)
    have hlen := wA l ((j - 1) / 2).toNat j.toNat
    rw [if_pos (decide_eq_true hlen)]
    match n, hn with
    | 0, hn => omega
    | n + 1, hn =>
     obtain ⟨l', h1, h2⟩ := HV n (swp l ((j - 1) / 2).toNat j.toNat) ((j - 1) / 2) (by omega) hi0 (by rw [hlen]; omega) (by rw [hlen]; exact hl)
     exact ⟨l', h1, h2.trans hp⟩
theorem DM (x1 : Int) (N : Nat) : ∀ (n : Nat) (l : List Int) (i : Int), N - i.toNat ≤ n → 0 ≤ i → i < l.length → N ≤ l.length → l.length ≤ 1000000 → ∃ r, ez l x1 (N : Int) i = some r ∧ r.1.Perm l
 | n, l, i, hn, h0, hi, hN, hl => by
  rw [ez]
  have e1 : dM 2 i = 2 * i := wK (by omega) (by omega)
  have e2 : am (dM 2 i) 1 = 2 * i + 1 := by rw [e1]; exact gQ (by omega) (by omega)
  have e3 : am (am (dM 2 i) 1) 1 = 2 * i + 2 := by rw [e2, gQ (by omega) (by omega)]; omega
  rw [e3, e2]
  have step : ∀ j : Int, i < j → j < (N : Int) → ∃ r, (ez (swp l i.toNat j.toNat) x1 (N : Int) j) = some r ∧ r.1.Perm l := by
   intro j h1 h2
   have hp := xd l i.toNat j.toNat (by omega) (by omega)
   have hlen := wA l i.toNat j.toNat
   match n, hn with
   | 0, hn => omega
   | n + 1, hn =>
    obtain ⟨r, h3, h4⟩ := DM x1 N n (swp l i.toNat j.toNat) j (by omega) (by omega) (by rw [hlen]; omega) (by rw [hlen]; exact hN) (by rw [hlen]; exact hl)
    exact ⟨r, h3, h4.trans hp⟩
  have go : ∀ j : Int, i < j → j < (N : Int) → ∃ r, (bind (dT l j i) fun v => if (!v) = true then some (l, i) else bind (dU l i j) fun v => if (decide ((List.length v : Nat) = List.length l)) = true then ez v x1 (N : Int) j else none) = some r ∧ r.1.Perm l := by
   intro j h1 h2
   rw [bind_some (Au l j i (by omega) (by omega) h0 hi)]
   split
   ·exact ⟨(l, i), rfl, .refl _⟩
   ·rw [bind_some (Av l i j h0 hi (by omega) (by omega)), if_pos (decide_eq_true (wA _ _ _))]
    exact step j h1 h2
  by_cases h1 : (2 * i + 1 : Int) ≥ N
  ·rw [if_pos (decide_eq_true h1)]; exact ⟨(l, i), rfl, .refl _⟩
  ·rw [if_neg (by simpa using h1), if_neg (by simp; omega)]
   by_cases h2 : (2 * i + 2 : Int) < N
   ·rw [if_pos (decide_eq_true h2), bind_some (Au l (2 * i + 2) (2 * i + 1) (by omega) (by omega) (by omega) (by omega))]
    split
    ·exact go (2 * i + 2) (by omega) h2
    ·exact go (2 * i + 1) (by omega) (by omega)
   ·rw [if_neg (by simpa using h2)]
    exact go (2 * i + 1) (by omega) (by omega)
theorem DN (l : List Int) (x : Int) (hl : l.length ≤ 65536) : ∃ l', mq l x = some l' ∧ l'.Perm (l ++ [x]) := by
 unfold mq kw fK AC
 rw [if_pos (Nat.ble_eq_true_of_le (by simp only [List.length_singleton, az]; omega))]
 simp only [bind, Option.bind_some]
 have e1 : aF (((l ++ [x]).length : Nat) : Int) 1 = l.length := by
  rw [List.length_append, List.length_singleton, io (by omega) (by omega)]; omega
 rw [e1]
 obtain ⟨l', h1, h2⟩ := HV l.length (l ++ [x]) (l.length : Int) (by omega) (by omega) (by simp; omega) (by simp; omega)
 rw [h1]
 exact ⟨l', rfl, h2⟩
theorem Ii (l : List Int) (h0 : 0 < l.length) (hl : l.length ≤ 65536) : ∃ x l', tn l = some (x, l') ∧ (l' ++ [x]).Perm l := by
 unfold tn fK
 have e1 : aF ((l.length : Nat) : Int) 1 = ((l.length - 1 : Nat) : Int) := by rw [io (by omega) (by omega)]; omega
 simp only [bind, Option.bind_some, e1]
 rw [Av l 0 ((l.length - 1 : Nat) : Int) (by omega) (by omega) (by omega) (by omega)]
 simp only [Option.bind_some]
 have hp := xd l (0 : Int).toNat ((l.length - 1 : Nat) : Int).toNat (by simp; omega) (by omega)
 have hlen := wA l (0 : Int).toNat ((l.length - 1 : Nat) : Int).toNat
 rw [if_pos (decide_eq_true hlen)]
 unfold uC
 obtain ⟨r, h1, h2⟩ := DM 0 (l.length - 1) (l.length - 1) (swp l (0 : Int).toNat ((l.length - 1 : Nat) : Int).toNat) 0 (by omega) (by omega) (by rw [hlen]; omega) (by rw [hlen]; omega) (by rw [hlen]; omega)
 rw [h1]
 simp only [bind, Option.bind_some]
 have hrl : r.1.length = l.length := h2.length_eq.trans hlen
 unfold lD
 have e2 : aF ((r.1.length : Nat) : Int) 1 = ((l.length - 1 : Nat) : Int) := by rw [hrl]; exact e1
 rw [e2, iP (by omega), iP (by omega), iP (by omega)]
 refine ⟨_, _, rfl, ?_⟩
 have e3 : (((l.length - 1 : Nat) : Int)).toNat = l.length - 1 := by omega
 rw [e3]
 have e4 : List.take (l.length - 1) r.1 ++ [r.1.getD (l.length - 1) 0] = r.1 := by
  have hlt : l.length - 1 < r.1.length := by omega
  have := List.take_append_getElem hlt
  rw [List.getD_eq_getElem?_getD, List.getElem?_eq_getElem hlt]
  simp only [Option.getD_some]
  rw [this]
  exact List.take_of_length_le (by omega)
 rw [e4]
 exact h2.trans hp
theorem vj : ∀ (n : Nat) (l : List Int), l.Nodup → (∀ x ∈ l, 0 ≤ x ∧ x < (n : Int)) → l.length ≤ n
 | 0, l, _, h => by
  cases l with
  | nil => simp
  | cons x l => have := h x (by simp); omega
 | n + 1, l, hn, h => by
  have h1 := vj n (l.erase (n : Int)) (hn.erase _) fun x hx => by
   have h2 := h x (List.mem_of_mem_erase hx)
   have h3 : x ≠ (n : Int) := fun e => by
    subst e
    exact (List.Nodup.not_mem_erase hn) hx
   omega
  have h4 : l.length ≤ (l.erase (n : Int)).length + 1 := by
   rw [List.length_erase]
   split <;> omega
  omega
def pd (c : List W32) (out : List Int) (f : Nat) : Nat := gi (fun b => (List.getD c f 0#32).getLsbD b && !decide ((b : Int) ∈ out)) 32
theorem yW {c : List W32} {out : List Int} {f : Nat} {x : Nat} (hx : x < 32) (hn : (x : Int) ∉ out) (hb : (List.getD c f 0#32).getLsbD x = true) : pd c (out ++ [(x : Int)]) f + 1 = pd c out f := by
 refine xc (k := x) hx (by simp only [hb, hn, decide_false, Bool.not_false, Bool.and_self]) (by simp) fun i hi => ?_
 have : ((i : Int) ∈ out ++ [(x : Int)]) ↔ (i : Int) ∈ out := by simp; omega
 simp only [this]
theorem yX {c : List W32} {out : List Int} {f : Nat} {x : Nat} (hb : ¬ (List.getD c f 0#32).getLsbD x = true) : pd c (out ++ [(x : Int)]) f = pd c out f := by
 refine gA fun i hi => ?_
 by_cases h : i = x
 ·subst h
  have : (List.getD c f 0#32).getLsbD i = false := by simpa using hb
  rw [this, Bool.false_and, Bool.false_and]
 ·have : ((i : Int) ∈ out ++ [(x : Int)]) ↔ (i : Int) ∈ out := by simp; omega
  simp only [this]
structure Mid (c : List W32) (n : Nat) (out : List Int) (x : Nat) (ready wait : List Int) (g : Nat) : Prop where
 wl : wait.length = n
 nd : (out ++ [(x : Int)] ++ ready).Nodup
 rng : ∀ y ∈ out ++ [(x : Int)] ++ ready, 0 ≤ y ∧ y < (n : Int)
 lt : ∀ h, h < g → h < n → List.getD wait h 0 = (pd c (out ++ [(x : Int)]) h : Int)
 ge : ∀ h, g ≤ h → h < n → List.getD wait h 0 = (pd c out h : Int)
 zer : ∀ h : Nat, h < n → ((h : Int) ∈ out ++ [(x : Int)] ++ ready ↔ List.getD wait h 0 = 0)
theorem du (l : List Int) (i j : Nat) (x : Int) (hi : i < l.length) : List.getD (l.set i x) j 0 = if j = i then x else List.getD l j 0 := by
 by_cases h : j = i
 ·subst h; simp [List.getD, hi]
 ·have : i ≠ j := fun e => h e.symm
  rw [if_neg h]
  simp [List.getD, List.getElem?_set, this]
theorem qg (c : List W32) (n : Nat) (hn : n ≤ 32) (hc : c.length = n) (out : List Int) (x : Nat) (hx : x < n) (x3 : List Int) : ∀ (m g : Nat) (wait ready : List Int), g + m = n → Mid c n out x ready wait g → ∃ wait' ready', dw c wait ready x3 (x : Int) (n : Int) (g : Int) = some (wait', ready') ∧ Mid c n out x ready' wait' n
 | 0, g, wait, ready, h, hm => by
  rw [dw, iN (by omega)]
  have : g = n := by omega
  subst this
  exact ⟨wait, ready, rfl, hm⟩
 | m + 1, g, wait, ready, h, hm => by
  have hwl := hm.wl
  have hnx : (x : Int) ∉ out := fun hin => by
   have := hm.nd
   rw [List.append_assoc, List.nodup_append] at this
   exact this.2.2 _ hin _ (by simp) rfl
  rw [dw, iP (by omega), iP (by omega), iP (by omega), Int.toNat_natCast, bind_some (show gE (List.getD c g 0#32) (x : Int) = some ((List.getD c g 0#32).getLsbD x) by rw [FI, if_pos (by omega), Int.toNat_natCast]), inc g (by omega)]
  have hgw := hm.ge g (Nat.le_refl _) (by omega)
  by_cases hb : (List.getD c g 0#32).getLsbD x = true
  ·have hl := yW (c := c) (f := g) (by omega) hnx hb
   have hsub : aF (List.getD wait g 0) 1 = (pd c (out ++ [(x : Int)]) g : Int) := by
    rw [hgw, io (by omega) (by have := qd (fun b => (List.getD c g 0#32).getLsbD b && !decide ((b : Int) ∈ out)) 32; unfold pd; omega)]
    omega
   rw [if_pos hb, iP (by omega), hsub, du _ _ _ _ (by omega), if_pos rfl]
   have hng : (g : Int) ∉ out ++ [(x : Int)] ++ ready := fun hin => by
    have := (hm.zer g (by omega)).1 hin
    omega
   by_cases h0 : pd c (out ++ [(x : Int)]) g = 0
   ·rw [if_pos (eqT (by omega))]
    have hsz := vj n ready (List.nodup_append.1 hm.nd).2.1 (fun y hy => hm.rng y (List.mem_append_right _ hy))
    obtain ⟨ready', q1, q2⟩ := DN ready (g : Int) (by omega)
    rw [bind_some q1]
    have hmem : ∀ y, y ∈ out ++ [(x : Int)] ++ ready' ↔ y ∈ out ++ [(x : Int)] ++ ready ∨ y = (g : Int) := fun y => by
     simp only [List.mem_append, q2.mem_iff, List.mem_singleton, or_assoc]
    refine qg c n hn hc out x hx x3 m (g + 1) _ ready' (by omega) ⟨by simpa using hwl, ?_, fun y hy => ?_, fun h h1 h2 => ?_, fun h h1 h2 => ?_, fun h h2 => ?_⟩
    ·have : (out ++ [(x : Int)] ++ ready').Perm (out ++ [(x : Int)] ++ ready ++ [(g : Int)]) := by
      rw [List.append_assoc (out ++ [(x : Int)])]
      exact q2.append_left _
     rw [this.nodup_iff, List.nodup_append]
     refine ⟨hm.nd, by simp, fun a ha b hb => ?_⟩
     rw [List.mem_singleton] at hb
     subst hb
     exact fun e => hng (e ▸ ha)
    ·rcases (hmem y).1 hy with h1 | rfl
     ·exact hm.rng y h1
     ·omega
    ·rw [du _ _ _ _ (by omega)]
     split
     ·rename_i e; subst e; rfl
     ·exact hm.lt h (by omega) h2
    ·rw [du _ _ _ _ (by omega), if_neg (by omega)]
     exact hm.ge h (by omega) h2
    ·rw [hmem, du _ _ _ _ (by omega)]
     split
     ·rename_i e; subst e; simp [h0]
     ·rename_i e
      rw [← hm.zer h h2]
      constructor
      ·rintro (h1 | h1)
       ·exact h1
       ·omega
      ·exact .inl
   ·rw [if_neg (eqF (by omega))]
    refine qg c n hn hc out x hx x3 m (g + 1) _ ready (by omega) ⟨by simpa using hwl, hm.nd, hm.rng, fun h h1 h2 => ?_, fun h h1 h2 => ?_, fun h h2 => ?_⟩
    ·rw [du _ _ _ _ (by omega)]
     split
     ·rename_i e; subst e; rfl
     ·exact hm.lt h (by omega) h2
    ·rw [du _ _ _ _ (by omega), if_neg (by omega)]
     exact hm.ge h (by omega) h2
    ·rw [du _ _ _ _ (by omega)]
     split
     ·rename_i e; subst e
      exact iff_of_false hng (by omega)
     ·exact hm.zer h h2
  ·rw [if_neg hb]
   have hl := yX (c := c) (out := out) (f := g) hb
   refine qg c n hn hc out x hx x3 m (g + 1) wait ready (by omega) ⟨hwl, hm.nd, hm.rng, fun h h1 h2 => ?_, fun h h1 h2 => hm.ge h (by omega) h2, hm.zer⟩
   by_cases e : h = g
   ·subst e; rw [hgw, hl]
   ·exact hm.lt h (by omega) h2
structure Ord (fs : FS) (c : List W32) (n : Nat) (out ready wait : List Int) : Prop where
 wl : wait.length = n
 nd : (out ++ ready).Nodup
 rng : ∀ y ∈ out ++ ready, 0 ≤ y ∧ y < (n : Int)
 cnt : ∀ h, h < n → List.getD wait h 0 = (pd c out h : Int)
 zer : ∀ h : Nat, h < n → ((h : Int) ∈ out ++ ready ↔ List.getD wait h 0 = 0)
 top : ∀ k, k < out.length → ∀ b, Edge fs (List.getD out k 0).toNat b → (b : Int) ∈ out.take k
theorem E0 {fs : FS} {c : List W32} {n : Nat} (hcb : ∀ x b, x < n → ((List.getD c x 0#32).getLsbD b = true ↔ b < 32 ∧ Edge fs x b)) (he : ∀ x b, Edge fs x b → b < 32) {out : List Int} {f : Nat} (hf : f < n) (h : pd c out f = 0) : ∀ b, Edge fs f b → (b : Int) ∈ out := by
 intro b hb
 have h1 := qe.1 h b (he f b hb)
 rw [(hcb f b hf).2 ⟨he f b hb, hb⟩, Bool.true_and] at h1
 simpa using h1
theorem zC (fs : FS) (c : List W32) (n : Nat) (hn : n ≤ 32) (hc : c.length = n) (hcb : ∀ x b, x < n → ((List.getD c x 0#32).getLsbD b = true ↔ b < 32 ∧ Edge fs x b)) (he : ∀ x b, Edge fs x b → b < 32) : ∀ (m : Nat) (out ready wait : List Int), n + 1 ≤ out.length + m → Ord fs c n out ready wait → ∃ out' wait', fA c wait ready out = some out' ∧ Ord fs c n out' [] wait'
 | m, out, ready, wait, hm, ho => by
  have hsz := vj n _ ho.nd ho.rng
  rw [List.length_append] at hsz
  rw [fA]
  unfold fK
  simp only [bind, Option.bind_some]
  by_cases hr : 0 < ready.length
  ·rw [iP (by omega)]
   obtain ⟨xi, ready1, q1, q2⟩ := Ii ready hr (by omega)
   have hxr : xi ∈ ready := q2.mem_iff.1 (by simp)
   have hxn := ho.rng xi (List.mem_append_right _ hxr)
   obtain ⟨x, rfl⟩ : ∃ x : Nat, xi = (x : Int) := ⟨xi.toNat, by omega⟩
   rw [q1]
   simp only [Option.bind_some]
   rw [if_pos (Nat.ble_eq_true_of_le (by simp only [List.length_singleton, az]; omega))]
   have hperm : (out ++ [(x : Int)] ++ ready1).Perm (out ++ ready) := by
    rw [List.append_assoc]
    exact ((List.perm_append_comm (l₁ := [(x : Int)]) (l₂ := ready1)).trans q2).append_left out
   obtain ⟨wait2, ready2, g1, g2⟩ := qg c n hn hc out x (by omega) (out ++ [(x : Int)]) n 0 wait ready1 (by omega) ⟨ho.wl, hperm.nodup_iff.2 ho.nd, fun y hy => ho.rng y (hperm.mem_iff.1 hy), fun h h1 => by omega, fun h _ h2 => ho.cnt h h2, fun h h2 => by rw [hperm.mem_iff]; exact ho.zer h h2⟩
   rw [show ((0 : Nat) : Int) = 0 from rfl] at g1
   rw [hc, g1]
   simp only [Option.bind_some]
   have hx0 : pd c out x = 0 := by
    have h1 := (ho.zer x (by omega)).1 (List.mem_append_right _ hxr)
    have h2 := ho.cnt x (by omega)
    omega
   match m, hm with
   | 0, hm => omega
   | m + 1, hm =>
    refine zC fs c n hn hc hcb he m (out ++ [(x : Int)]) ready2 wait2 (by simp; omega) ⟨g2.wl, g2.nd, g2.rng, fun h h2 => g2.lt h h2 h2, g2.zer, fun k hk b hb => ?_⟩
    rw [List.length_append, List.length_singleton] at hk
    rw [jb] at hb
    split at hb
    ·rename_i e
     subst e
     rw [Int.toNat_natCast] at hb
     rw [List.take_append_of_le_length (Nat.le_refl _), List.take_length]
     exact E0 hcb he (by omega) hx0 b hb
    ·rw [List.take_append_of_le_length (by omega)]
     exact ho.top k (by omega) b hb
  ·rw [iN (by omega)]
   have : ready = [] := List.length_eq_zero_iff.1 (by omega)
   subst this
   exact ⟨out, wait, rfl, ho⟩
theorem xe (c : List W32) (n : Nat) (hn : n ≤ 32) (hc : c.length = n) : ∀ (m i : Nat) (wait ready : List Int), i + m = n → wait.length = n → ready.Nodup → (∀ y ∈ ready, 0 ≤ y ∧ y < (i : Int)) → (∀ h, h < i → List.getD wait h 0 = (pd c [] h : Int)) → (∀ h : Nat, h < i → ((h : Int) ∈ ready ↔ List.getD wait h 0 = 0)) →
  ∃ wait' ready', eG c wait ready (n : Int) (i : Int) = some (wait', ready') ∧ wait'.length = n ∧ ready'.Nodup ∧ (∀ y ∈ ready', 0 ≤ y ∧ y < (n : Int)) ∧ (∀ h, h < n → List.getD wait' h 0 = (pd c [] h : Int)) ∧ (∀ h : Nat, h < n → ((h : Int) ∈ ready' ↔ List.getD wait' h 0 = 0))
 | 0, i, wait, ready, h, h1, h2, h3, h4, h5 => by
  rw [eG, iN (by omega)]
  have : i = n := by omega
  subst this
  exact ⟨wait, ready, rfl, h1, h2, h3, h4, h5⟩
 | m + 1, i, wait, ready, h, h1, h2, h3, h4, h5 => by
  rw [eG, iP (by omega), iP (by omega), iP (by omega), Int.toNat_natCast, bind_some (FH _), iP (by omega), inc i (by omega), du _ _ _ _ (by omega), if_pos rfl]
  have hl : gi (fun b => (List.getD c i 0#32).getLsbD b) 32 = pd c [] i := gA fun b _ => by simp
  rw [hl]
  have hni : (i : Int) ∉ ready := fun hin => by have := h3 _ hin; omega
  by_cases h0 : pd c [] i = 0
  ·rw [if_pos (eqT (by omega))]
   have hsz := vj i ready h2 h3
   obtain ⟨ready', q1, q2⟩ := DN ready (i : Int) (by omega)
   rw [bind_some q1]
   have hmem : ∀ y, y ∈ ready' ↔ y ∈ ready ∨ y = (i : Int) := fun y => by rw [q2.mem_iff]; simp
   refine xe c n hn hc m (i + 1) _ ready' (by omega) (by simpa using h1) ?_ (fun y hy => ?_) (fun h hh => ?_) fun h hh => ?_
   ·rw [q2.nodup_iff, List.nodup_append]
    refine ⟨h2, by simp, fun a ha b hb => ?_⟩
    rw [List.mem_singleton] at hb
    subst hb
    exact fun e => hni (e ▸ ha)
   ·rcases (hmem y).1 hy with hy | rfl
    ·have := h3 y hy; omega
    ·omega
   ·rw [du _ _ _ _ (by omega)]
    split
    ·rename_i e; subst e; rfl
    ·exact h4 h (by omega)
   ·rw [hmem, du _ _ _ _ (by omega)]
    split
    ·rename_i e; subst e; simp [h0]
    ·rw [← h5 h (by omega)]
     constructor
     ·rintro (h6 | h6)
      ·exact h6
      ·omega
     ·exact .inl
  ·rw [if_neg (eqF (by omega))]
   refine xe c n hn hc m (i + 1) _ ready (by omega) (by simpa using h1) h2 (fun y hy => by have := h3 y hy; omega) (fun h hh => ?_) fun h hh => ?_
   ·rw [du _ _ _ _ (by omega)]
    split
    ·rename_i e; subst e; rfl
    ·exact h4 h (by omega)
   ·rw [du _ _ _ _ (by omega)]
    split
    ·rename_i e; subst e; exact iff_of_false hni (by omega)
    ·exact h5 h (by omega)
theorem Ij (n : Nat) (l : List Nat) (hd : l.Nodup) (h : ∀ x ∈ l, x < n) : l.length ≤ n := by
 have := vj n (l.map Int.ofNat) (by
  rw [List.nodup_iff_pairwise_ne, List.pairwise_map]
  exact (List.nodup_iff_pairwise_ne.1 hd).imp fun {a b} (h : a ≠ b) => fun e => h (Int.ofNat.inj e)) (fun x hx => by
  obtain ⟨y, hy, rfl⟩ := List.mem_map.1 hx
  have := h y hy
  exact ⟨Int.natCast_nonneg y, by show (y : Int) < n; omega⟩)
 simpa using this
theorem Bp {fs : FS} {n : Nat} {S : Nat → Prop} (hS : ∀ x, S x → x < n) (hstep : ∀ x, S x → ∃ y, S y ∧ Edge fs x y) (hac : ∀ f, f < n → ¬ nQ fs f f) : ∀ (m : Nat) (V : List Nat) (u : Nat), V.Nodup → (∀ v ∈ V, v < n ∧ nQ fs v u) → u ∉ V → S u → n ≤ V.length + m → False
 | m, V, u, hd, hV, hu, hs, hl => by
  have h1 : (u :: V).Nodup := List.nodup_cons.2 ⟨hu, hd⟩
  have h2 := Ij n (u :: V) h1 fun x hx => by
   rcases List.mem_cons.1 hx with rfl | hx
   ·exact hS _ hs
   ·exact (hV x hx).1
  rw [List.length_cons] at h2
  match m, hl with
  | 0, hl => omega
  | m + 1, hl =>
   obtain ⟨y, hy, e⟩ := hstep u hs
   have huy : nQ fs u y := ⟨y, e, .refl _⟩
   refine Bp hS hstep hac m (u :: V) y h1 (fun v hv => ?_) (fun hv => ?_) hy (by rw [List.length_cons]; omega)
   ·rcases List.mem_cons.1 hv with rfl | hv
    ·exact ⟨hS _ hs, huy⟩
    ·exact ⟨(hV v hv).1, (hV v hv).2.trans huy⟩
   ·rcases List.mem_cons.1 hv with rfl | hv
    ·exact hac _ (hS _ hs) huy
    ·exact hac _ (hV _ hv).1 ((hV _ hv).2.trans huy)
theorem dI.trans {p : ae} (h : dI p) (f : Nat) (hf : f < p.funcs.length) : ¬ nQ p.funcs f f := by
 rintro ⟨c, ⟨i, h1, h2, h3⟩, h4⟩
 exact h.acyc f i hf h1 ⟨h2, c, h3, h4⟩
structure G9 (fs : FS) (out : List Int) : Prop where
 nd : out.Nodup
 rng : ∀ y ∈ out, 0 ≤ y ∧ y < (fs.length : Int)
 all : ∀ f : Nat, f < fs.length → (f : Int) ∈ out
 top : ∀ k, k < out.length → ∀ b, Edge fs (List.getD out k 0).toNat b → (b : Int) ∈ out.take k
theorem rO (p : ae) (hg : dI p) (hk : bM p = some (0, 0, 0)) : ∃ out, iE p = some (0, out) ∧ G9 p.funcs out := by
 obtain ⟨c, q1, q2, q3⟩ := xb p (by have := hg.funcs; omega) (fun f => by have := hg.le f; omega)
 have hn := hg.funcs.2
 have he : ∀ x b, Edge p.funcs x b → b < 32 := fun x b e => by have := (e.lt hg.calls).2; omega
 unfold iE
 rw [bind_some hk, if_neg (by decide), bind_some q1, iP (by omega), if_pos (decide_eq_true (by simp only [az]; omega)), Int.toNat_natCast, q2]
 obtain ⟨wait, ready, g1, g2, g3, g4, g5, g6⟩ := xe c p.funcs.length (by omega) q2 p.funcs.length 0 (List.replicate p.funcs.length 0) [] (by omega) (by simp) (by simp) (by simp) (fun h hh => by omega) (fun h hh => by omega)
 rw [show ((0 : Nat) : Int) = 0 from rfl] at g1
 rw [bind_some g1]
 obtain ⟨out, wait', k1, k2⟩ := zC p.funcs c p.funcs.length (by omega) q2 q3 he (p.funcs.length + 1) [] ready wait (by simp) ⟨g2, by simpa using g3, by simpa using g4, g5, by simpa using g6, fun k hk => by simp at hk⟩
 rw [bind_some k1]
 refine ⟨out, rfl, by simpa using k2.nd, by simpa using k2.rng, fun f hf => ?_, k2.top⟩
 apply Classical.byContradiction
 intro hno
 have hS : ∀ x, (x < p.funcs.length ∧ (x : Int) ∉ out) → ∃ y, (y < p.funcs.length ∧ (y : Int) ∉ out) ∧ Edge p.funcs x y := by
  rintro x ⟨hx, hxo⟩
  apply Classical.byContradiction
  intro hall
  have h0 : pd c out x = 0 := by
   refine qe.2 fun b hb => ?_
   cases hbit : (List.getD c x 0#32).getLsbD b with
   | false => rfl
   | true =>
    have e := ((q3 x b hx).1 hbit).2
    have hbn := (e.lt hg.calls).2
    have hin : (b : Int) ∈ out := by
     apply Classical.byContradiction
     intro h
     exact hall ⟨b, ⟨hbn, h⟩, e⟩
    simp [hin]
  have h1 := k2.cnt x hx
  rw [h0] at h1
  have := (k2.zer x hx).2 h1
  rw [List.append_nil] at this
  exact hxo this
 exact Bp (n := p.funcs.length) (S := fun x => x < p.funcs.length ∧ (x : Int) ∉ out) (fun x h => h.1) hS hg.trans p.funcs.length [] f (by simp) (by simp) (by simp) ⟨hf, hno⟩ (by simp)
def succ (x : ab) : List Int := if x.kind = 9 then [] else if x.kind = 8 then [x.next, x.alt] else [x.next]
theorem sO (x : ab) : iB x = some (succ x) := by
 unfold iB succ
 by_cases h : x.kind = 9
 ·rw [if_pos (eqT h), if_pos h]
 ·rw [if_neg (eqF h), if_neg h]
  by_cases h8 : x.kind = 8
  ·rw [if_pos (eqT h8), if_pos h8]
  ·rw [if_neg (eqF h8), if_neg h8]
theorem nw (x : ab) : aK x = some (succ x) := by
 unfold aK succ
 by_cases h : x.kind = 9
 ·rw [if_pos (eqT h), if_pos h]
 ·rw [if_neg (eqF h), if_neg h]
  by_cases h8 : x.kind = 8
  ·rw [if_pos (eqT h8), if_pos h8]
  ·rw [if_neg (eqF h8), if_neg h8]
theorem mf (x : ab) : (succ x).length ≤ 2 := by
 unfold succ
 split
 ·simp
 ·split <;> simp
theorem Aw {p : ae} {x : ab} {n : Int} (h : nt p x n) (hn : 1 ≤ n) : ∀ y ∈ succ x, 0 ≤ y ∧ y < n := by
 intro y hy
 unfold succ at hy
 split at hy
 ·cases hy
 ·rename_i h9
  have h1 := h.next h9
  split at hy
  ·rename_i h8
   have h2 := h.alt h8
   simp at hy
   rcases hy with rfl | rfl <;> omega
  ·simp at hy
   subst hy; omega
def To (l : List ab) (i y : Nat) : Prop := i < l.length ∧ y < l.length ∧ (y : Int) ∈ succ (List.getD l i aa)
inductive Aft (l : List ab) (fr : List Int) : Nat → Prop
 | first {i y : Nat} : (i : Int) ∈ fr → To l i y → Aft l fr y
 | more {i y : Nat} : Aft l fr i → To l i y → Aft l fr y
theorem FJ : ∀ {a b : List Bool}, a.length = b.length → (∀ y, Sn a y ↔ Sn b y) → a = b
 | [], [], _, _ => rfl
 | x :: a, y :: b, hl, h => by
  have h0 := h 0
  have ih := FJ (a := a) (b := b) (by simpa using hl) fun y => h (y + 1)
  unfold Sn at h0
  simp only [List.getD_cons_zero] at h0
  rw [ih, Bool.eq_iff_iff.2 h0]
theorem xf (l : List ab) (hl : l.length ≤ 65536) (js : List Int) (hj : js.length ≤ 65536) : ∀ (m i : Nat) (s : List Bool) (t : List Int), i + m = js.length → s.length = l.length → t.length + s.count false ≤ 65536 → ∃ s' t', ba s t js l (js.length : Int) (i : Int) = some (s', t') ∧ s'.length = l.length ∧ t'.length + s'.count false = t.length + s.count false ∧ (∀ y, Sn s' y ↔ Sn s y ∨ (y < l.length ∧ (y : Int) ∈ js.drop i)) ∧ (∀ z, z ∈ t → z ∈ t') ∧ (∀ y, Sn s' y → Sn s y ∨ (y : Int) ∈ t') ∧ (∀ z, z ∈ t' → z ∈ t ∨ ∃ y : Nat, z = (y : Int) ∧ Sn s' y)
 | 0, i, s, t, h, hs, hc => by
  rw [ba, iN (by omega), List.drop_eq_nil_of_le (by omega)]
  exact ⟨s, t, rfl, hs, rfl, fun y => by simp, fun z h => h, fun y h => .inl h, fun z h => .inl h⟩
 | m + 1, i, s, t, h, hs, hc => by
  have hlt : i < js.length := by omega
  have hd : js.drop i = js[i] :: js.drop (i + 1) := List.drop_eq_getElem_cons hlt
  have hg : List.getD js i 0 = js[i] := by simp [List.getD, hlt]
  rw [ba, iP (by omega), iP (by omega), iP (by omega), Int.toNat_natCast, hg, hd, inc i (by omega)]
  have skip : ¬ (∃ y : Nat, js[i] = (y : Int) ∧ y < l.length ∧ ¬ Sn s y) → ∃ s' t', ba s t js l (js.length : Int) ((i + 1 : Nat) : Int) = some (s', t') ∧ s'.length = l.length ∧ t'.length + s'.count false = t.length + s.count false ∧ (∀ y, Sn s' y ↔ Sn s y ∨ (y < l.length ∧ (y : Int) ∈ js[i] :: js.drop (i + 1))) ∧ (∀ z, z ∈ t → z ∈ t') ∧ (∀ y, Sn s' y → Sn s y ∨ (y : Int) ∈ t') ∧ (∀ z, z ∈ t' → z ∈ t ∨ ∃ y : Nat, z = (y : Int) ∧ Sn s' y) := by
   intro hno
   obtain ⟨s', t', q1, q2, q3, q4, q5, q6, q7⟩ := xf l hl js hj m (i + 1) s t (by omega) hs hc
   refine ⟨s', t', q1, q2, q3, fun y => ?_, q5, q6, q7⟩
   rw [q4, List.mem_cons]
   constructor
   ·rintro (h1 | ⟨h1, h2⟩)
    ·exact .inl h1
    ·exact .inr ⟨h1, .inr h2⟩
   ·rintro (h1 | ⟨h1, h2 | h2⟩)
    ·exact .inl h1
    ·exact .inl (Classical.byContradiction fun h3 => hno ⟨y, h2.symm, h1, h3⟩)
    ·exact .inr ⟨h1, h2⟩
  by_cases h0 : 0 ≤ js[i]
  ·rw [iP (by omega)]
   by_cases h1 : js[i] < (l.length : Int)
   ·obtain ⟨x, hx⟩ : ∃ x : Nat, js[i] = (x : Int) := ⟨js[i].toNat, by omega⟩
    rw [iP (by omega), iP (by omega), iP (by omega)]
    rw [hx] at h1 skip ⊢
    rw [Int.toNat_natCast x]
    by_cases hsx : Sn s x
    ·rw [if_neg (by rw [show List.getD s x false = true from hsx]; decide)]
     refine skip ?_
     rintro ⟨y, h2, h3, h4⟩
     have : y = x := by omega
     subst this
     exact h4 hsx
    ·have hf : List.getD s x false = false := by
      unfold Sn at hsx
      simpa using hsx
     have hcs := iM (s := s) (a := x) (by omega) hsx
     rw [if_pos (by rw [hf]; rfl), if_pos (Nat.ble_eq_true_of_le (by simp only [List.length_singleton, az]; omega))]
     obtain ⟨s', t', q1, q2, q3, q4, q5, q6, q7⟩ := xf l hl js hj m (i + 1) (s.set x true) (t ++ [(x : Int)]) (by omega) (by simpa using hs) (by rw [List.length_append, List.length_singleton]; omega)
     refine ⟨s', t', q1, q2, by rw [q3, List.length_append, List.length_singleton]; omega, fun y => ?_, fun z hz => q5 z (List.mem_append_left _ hz), fun y hy => ?_, fun z hz => ?_⟩
     ·rw [q4, cT (by omega), List.mem_cons]
      constructor
      ·rintro ((rfl | h2) | ⟨h2, h3⟩)
       ·exact .inr ⟨by omega, .inl rfl⟩
       ·exact .inl h2
       ·exact .inr ⟨h2, .inr h3⟩
      ·rintro (h2 | ⟨h2, h3 | h3⟩)
       ·exact .inl (.inr h2)
       ·exact .inl (.inl (by omega))
       ·exact .inr ⟨h2, h3⟩
     ·rcases q6 y hy with h2 | h2
      ·rcases (cT (by omega)).1 h2 with rfl | h3
       ·exact .inr (q5 _ (by simp))
       ·exact .inl h3
      ·exact .inr h2
     ·rcases q7 z hz with h2 | h2
      ·rcases List.mem_append.1 h2 with h3 | h3
       ·exact .inl h3
       ·rw [List.mem_singleton] at h3
        exact .inr ⟨x, h3, (q4 x).2 (.inl ((cT (by omega)).2 (.inl rfl)))⟩
      ·exact .inr h2
   ·rw [iN (by omega)]
    exact skip (by rintro ⟨y, h2, h3, _⟩; omega)
  ·rw [iN (by omega)]
   exact skip (by rintro ⟨y, h2, h3, _⟩; omega)
theorem xg (l : List ab) (js : List Int) (hj : js.length ≤ 65536) : ∀ (m i : Nat) (s : List Bool) (t : List Int), i + m = js.length → bw s t js l (js.length : Int) (i : Int) = ba s t js l (js.length : Int) (i : Int)
 | 0, i, s, t, h => by
  rw [ba, bw, iN (by omega), iN (by omega)]
 | m + 1, i, s, t, h => by
  have ih := fun s t => xg l js hj m (i + 1) s t (by omega)
  rw [ba, bw, inc i (by omega)]
  simp only [ih]
structure DO (l : List ab) (z : Int) (s : List Bool) (t : List Int) (s' : List Bool) (t' : List Int) : Prop where
 len : s'.length = l.length
 cnt : t'.length + s'.count false = t.length + s.count false
 iff : ∀ y, Sn s' y ↔ Sn s y ∨ ∃ i : Nat, z = (i : Int) ∧ To l i y
 keep : ∀ x, x ∈ t → x ∈ t'
 new : ∀ y, Sn s' y → Sn s y ∨ (y : Int) ∈ t'
 old : ∀ x, x ∈ t' → x ∈ t ∨ ∃ y : Nat, x = (y : Int) ∧ Sn s' y
theorem DO.none {l : List ab} {z : Int} {s : List Bool} {t : List Int} (hs : s.length = l.length) (h : ∀ i : Nat, z = (i : Int) → ¬ i < l.length) : DO l z s t s t :=
 ⟨hs, rfl, fun y => ⟨.inl, fun h1 => h1.elim (fun h => h) fun ⟨i, e, h2⟩ => absurd h2.1 (h i e)⟩, fun x h => h, fun y h => .inl h, fun x h => .inl h⟩
theorem DP (l : List ab) (hl : l.length ≤ 65536) (s : List Bool) (t : List Int) (z : Int) (hs : s.length = l.length) (hc : t.length + s.count false ≤ 65536) : ∃ s' t', hO s t l z = some (s', t') ∧ DO l z s t s' t' := by
 unfold hO
 by_cases h0 : z < 0
 ·rw [if_pos (decide_eq_true h0)]
  exact ⟨s, t, rfl, .none hs fun i e => by omega⟩
 ·rw [iN (by omega)]
  by_cases h1 : z ≥ (l.length : Int)
  ·rw [if_pos (decide_eq_true h1)]
   exact ⟨s, t, rfl, .none hs fun i e => by omega⟩
  ·obtain ⟨i, rfl⟩ : ∃ x : Nat, z = (x : Int) := ⟨z.toNat, by omega⟩
   have hle := mf (List.getD l i aa)
   obtain ⟨s', t', q1, q2, q3, q4, q5, q6, q7⟩ := xf l hl (succ (List.getD l i aa)) (by omega) _ 0 s t (Nat.zero_add _) hs hc
   rw [show ((0 : Nat) : Int) = 0 from rfl] at q1
   rw [iN (by omega), iP (by omega), iP (by omega), Int.toNat_natCast, bind_some (sO _), bind_some q1]
   refine ⟨s', t', rfl, q2, q3, fun y => ?_, q5, q6, q7⟩
   rw [q4, List.drop_zero]
   constructor
   ·rintro (h2 | ⟨h2, h3⟩)
    ·exact .inl h2
    ·exact .inr ⟨i, rfl, by omega, h2, h3⟩
   ·rintro (h2 | ⟨k, h2, h3, h4, h5⟩)
    ·exact .inl h2
    ·have : k = i := by omega
     subst this
     exact .inr ⟨h4, h5⟩
theorem FK (l : List ab) (hl : l.length ≤ 65536) (s : List Bool) (t : List Int) (k : Nat) (hk : k ≤ t.length) (z : Int) (hs : s.length = l.length) (hc : (t.take k).length + s.count false ≤ 65536) : ∃ s' t', im s t l k z = some (s', t') ∧ DO l z s (t.take k) s' t' := by
 obtain ⟨s', t', q1, q2⟩ := DP l hl s (t.take k) z hs hc
 refine ⟨s', t', ?_, q2⟩
 rw [← q1]
 unfold im hO
 rw [if_pos (decide_eq_true hk)]
 by_cases h0 : z < 0
 ·have c0 : decide (z < 0) = true := decide_eq_true h0
  rw [if_pos c0, if_pos c0]
 ·have c0 : ¬ decide (z < 0) = true := by simpa using h0
  rw [if_neg c0, if_neg c0]
  by_cases h1 : z ≥ (l.length : Int)
  ·have c1 : decide (z ≥ (l.length : Int)) = true := decide_eq_true h1
   rw [if_pos c1, if_pos c1]
  ·have c1 : ¬ decide (z ≥ (l.length : Int)) = true := by simpa using h1
   have c2 : decide ((0 : Int) ≤ z) = true := decide_eq_true (by omega)
   have c3 : decide (z < (l.length : Int)) = true := decide_eq_true (by omega)
   rw [if_neg c1, if_neg c1, if_pos c2, if_pos c2, if_pos c3, if_pos c3, bind_some (sO _), bind_some (sO _)]
   have hle := mf (List.getD l z.toNat aa)
   have := xg l (succ (List.getD l z.toNat aa)) (by omega) _ 0 s (t.take k) (Nat.zero_add _)
   rw [show ((0 : Nat) : Int) = 0 from rfl] at this
   rw [this]
theorem Bq (l : List ab) (hl : l.length ≤ 65536) (fr : List Int) (hf : fr.length ≤ 65536) : ∀ (m i : Nat) (s : List Bool) (t : List Int), i + m = fr.length → s.length = l.length → t.length + s.count false ≤ 65536 → (∀ y, Sn s y → (y : Int) ∈ t) → (∀ z, z ∈ t → ∃ y : Nat, z = (y : Int) ∧ Sn s y) → ∃ s' t', fi s t l fr (fr.length : Int) (i : Int) = some (s', t') ∧ s'.length = l.length ∧ t'.length + s'.count false = t.length + s.count false ∧ (∀ y, Sn s' y ↔ Sn s y ∨ ∃ x : Nat, (x : Int) ∈ fr.drop i ∧ To l x y) ∧ (∀ y, Sn s' y → (y : Int) ∈ t') ∧ (∀ z, z ∈ t' → ∃ y : Nat, z = (y : Int) ∧ Sn s' y)
 | 0, i, s, t, h, hs, hc, ha, hb => by
  rw [fi, iN (by omega), List.drop_eq_nil_of_le (by omega)]
  exact ⟨s, t, rfl, hs, rfl, fun y => by simp, ha, hb⟩
 | m + 1, i, s, t, h, hs, hc, ha, hb => by
  have hlt : i < fr.length := by omega
  have hd : fr.drop i = fr[i] :: fr.drop (i + 1) := List.drop_eq_getElem_cons hlt
  have hg : List.getD fr i 0 = fr[i] := by simp [List.getD, hlt]
  obtain ⟨s1, t1, q1, q2⟩ := DP l hl s t fr[i] hs hc
  have c1 := q2.cnt
  rw [fi, iP (by omega), iP (by omega), iP (by omega), Int.toNat_natCast, hg, hd, inc i (by omega), bind_some q1]
  obtain ⟨s', t', k1, k2, k3, k4, k5, k6⟩ := Bq l hl fr hf m (i + 1) s1 t1 (by omega) q2.len (by omega) (fun y hy => (q2.new y hy).elim (fun h => q2.keep _ (ha y h)) fun h => h) (fun z hz => (q2.old z hz).elim (fun h => by
   obtain ⟨y, e, h1⟩ := hb z h
   exact ⟨y, e, (q2.iff y).2 (.inl h1)⟩) fun h => h)
  refine ⟨s', t', k1, k2, by omega, fun y => ?_, k5, k6⟩
  rw [k4, q2.iff]
  constructor
  ·rintro ((h1 | ⟨x, h1, h2⟩) | ⟨x, h1, h2⟩)
   ·exact .inl h1
   ·exact .inr ⟨x, by rw [← h1]; exact List.mem_cons_self, h2⟩
   ·exact .inr ⟨x, List.mem_cons_of_mem _ h1, h2⟩
  ·rintro (h1 | ⟨x, h1, h2⟩)
   ·exact .inl (.inl h1)
   ·rcases List.mem_cons.1 h1 with h3 | h3
    ·exact .inl (.inr ⟨x, h3.symm, h2⟩)
    ·exact .inr ⟨x, h3, h2⟩
theorem E3 {t : List Int} (h : t ≠ []) : ∃ t0 z, t = t0 ++ [z] := ⟨t.dropLast, t.getLast h, (List.dropLast_concat_getLast h).symm⟩
theorem Br (l : List ab) (hl : l.length ≤ 65536) (P : Nat → Prop) (hP : ∀ x y, P x → To l x y → P y) : ∀ (n : Nat) (s : List Bool) (t : List Int), t.length + s.count false ≤ n → n ≤ 65536 → s.length = l.length → (∀ z, z ∈ t → ∃ y : Nat, z = (y : Int) ∧ Sn s y) → (∀ y, Sn s y → P y) → (∀ x y, Sn s x → (x : Int) ∉ t → To l x y → Sn s y) → ∃ s', fj s t l = some s' ∧ s'.length = l.length ∧ (∀ y, Sn s y → Sn s' y) ∧ (∀ y, Sn s' y → P y) ∧ ∀ x y, Sn s' x → To l x y → Sn s' y
 | n, s, t, hn, hb, hs, ht, hsP, hcl => by
  by_cases he : t = []
  ·subst he
   rw [fj, if_neg (by simp)]
   exact ⟨s, rfl, hs, fun y h => h, hsP, fun x y hx e => hcl x y hx (by simp) e⟩
  ·obtain ⟨t0, z, rfl⟩ := E3 he
   rw [List.length_append, List.length_singleton] at hn
   have hsub : aF (((t0 ++ [z]).length : Nat) : Int) 1 = (t0.length : Int) := by
    rw [List.length_append, List.length_singleton, io (by omega) (by omega)]
    omega
   have htk : (t0 ++ [z]).take t0.length = t0 := by simp
   have hgz : List.getD (t0 ++ [z]) t0.length 0 = z := by simp [List.getD]
   obtain ⟨s1, t1, q1, q2⟩ := FK l hl s (t0 ++ [z]) t0.length (by simp) z hs (by rw [htk]; omega)
   rw [htk] at q2
   have c1 := q2.cnt
   have hlen : (t0 ++ [z]).length = t0.length + 1 := by simp
   rw [fj, hsub, iP (by omega), iP (by omega), iP (by omega), iP (by omega), Int.toNat_natCast, hgz, bind_some q1]
   obtain ⟨n', rfl⟩ : ∃ n', n = n' + 1 := ⟨n - 1, by omega⟩
   obtain ⟨s', k1, k2, k3, k4, k5⟩ := Br l hl P hP n' s1 t1 (by omega) (by omega) q2.len (fun x hx => (q2.old x hx).elim (fun h => by
    obtain ⟨y, e, h1⟩ := ht x (List.mem_append_left _ h)
    exact ⟨y, e, (q2.iff y).2 (.inl h1)⟩) fun h => h) (fun y hy => ((q2.iff y).1 hy).elim (hsP y) fun ⟨i, e, h1⟩ => by
     obtain ⟨y', e', h2⟩ := ht z (by simp)
     have : y' = i := by omega
     subst this
     exact hP _ _ (hsP _ h2) h1) (fun x y hx hnx e => by
    rcases q2.new x hx with h1 | h1
    ·by_cases hxt : (x : Int) ∈ t0 ++ [z]
     ·rcases List.mem_append.1 hxt with h2 | h2
      ·exact absurd (q2.keep _ h2) hnx
      ·rw [List.mem_singleton] at h2
       exact (q2.iff y).2 (.inr ⟨x, h2.symm, e⟩)
     ·exact (q2.iff y).2 (.inl (hcl x y h1 hxt e))
    ·exact absurd h1 hnx)
   exact ⟨s', k1, k2, fun y hy => k3 y ((q2.iff y).2 (.inl hy)), k4, k5⟩
theorem FL (l : List ab) (hl : l.length ≤ 65536) (fr : List Int) (hf : fr.length ≤ 65536) : ∃ a, lb l fr = some a ∧ a.length = l.length ∧ ∀ y, Sn a y ↔ Aft l fr y := by
 have hcnt := List.count_le_length (a := false) (l := List.replicate l.length false)
 rw [List.length_replicate] at hcnt
 obtain ⟨s1, t1, q1, q2, q3, q4, q5, q6⟩ := Bq l hl fr hf fr.length 0 (List.replicate l.length false) [] (Nat.zero_add _) (by simp) (by simp only [List.length_nil]; omega) (fun y h => absurd h (ca _ _)) (fun z h => by cases h)
 rw [show ((0 : Nat) : Int) = 0 from rfl] at q1
 simp only [List.length_nil] at q3
 obtain ⟨s', k1, k2, k3, k4, k5⟩ := Br l hl (Aft l fr) (fun x y h e => .more h e) 65536 s1 t1 (by omega) (Nat.le_refl _) q2 q6 (fun y hy => by
  rcases (q4 y).1 hy with h | ⟨x, h1, h2⟩
  ·exact absurd h (ca _ _)
  ·exact .first (by simpa using h1) h2) (fun x y hx hn _ => absurd (q5 x hx) hn)
 unfold lb
 rw [iP (by omega), if_pos (decide_eq_true (by simp only [az]; omega)), Int.toNat_natCast, bind_some q1, bind_some k1]
 refine ⟨s', rfl, k2, fun y => ⟨k4 y, fun h => ?_⟩⟩
 induction h with
 | first h1 h2 => exact k3 _ ((q4 _).2 (.inr ⟨_, by simpa using h1, h2⟩))
 | more _ h2 ih => exact k5 _ _ ih h2
theorem xh (l : List Int) (hl : l.length ≤ 65536) (z : Int) : ∀ (m i : Nat), i + m = l.length → dO l z (i : Int) = some (if z ∈ l.drop i then .x0 true else .x1)
 | 0, i, h => by
  rw [dO, iN (by omega), List.drop_eq_nil_of_le (by omega), if_neg (by simp)]
 | m + 1, i, h => by
  have hlt : i < l.length := by omega
  have hd : l.drop i = l[i] :: l.drop (i + 1) := List.drop_eq_getElem_cons hlt
  have hg : List.getD l i 0 = l[i] := by simp [List.getD, hlt]
  rw [dO, iP (by omega), iP (by omega), iP (by omega), Int.toNat_natCast, hg, hd, inc i (by omega)]
  by_cases e : l[i] = z
  ·rw [if_pos (eqT e), if_pos (by rw [e]; simp)]
  ·rw [if_neg (eqF e), xh l hl z m (i + 1) (by omega)]
   have : z ∈ l[i] :: l.drop (i + 1) ↔ z ∈ l.drop (i + 1) := by
    rw [List.mem_cons]
    exact ⟨fun h => h.elim (fun h => absurd h.symm e) fun h => h, .inr⟩
   simp only [this]
theorem CP (l : List Int) (hl : l.length ≤ 65536) (z : Int) : iK l z = some (decide (z ∈ l)) := by
 have q := xh l hl z l.length 0 (Nat.zero_add _)
 rw [show ((0 : Nat) : Int) = 0 from rfl, List.drop_zero] at q
 unfold iK
 rw [bind_some q]
 by_cases h : z ∈ l
 ·rw [if_pos h]; simp [h]
 ·rw [if_neg h]; simp [h]
theorem nx (l : List ab) (hl : l.length ≤ 65536) (js : List Int) (hj : js.length ≤ 65536) (x3 : List Int) (x4 x5 : Int) : ∀ (m i : Nat) (s : List Bool), i + m = js.length → s.length = l.length → ∃ s', aT s js l x3 x4 x5 (i : Int) = some s' ∧ s'.length = l.length ∧ ∀ y, Sn s' y ↔ Sn s y ∨ (y < l.length ∧ (y : Int) ∈ js.drop i)
 | 0, i, s, h, hs => by
  rw [aT, iN (by omega), List.drop_eq_nil_of_le (by omega)]
  exact ⟨s, rfl, hs, fun y => by simp⟩
 | m + 1, i, s, h, hs => by
  have hlt : i < js.length := by omega
  have hd : js.drop i = js[i] :: js.drop (i + 1) := List.drop_eq_getElem_cons hlt
  have hg : List.getD js i 0 = js[i] := by simp [List.getD, hlt]
  rw [aT, iP (by omega), iP (by omega), iP (by omega), Int.toNat_natCast, hg, hd, inc i (by omega)]
  have skip : ¬ (∃ y : Nat, js[i] = (y : Int) ∧ y < l.length) → ∃ s', aT s js l x3 x4 x5 ((i + 1 : Nat) : Int) = some s' ∧ s'.length = l.length ∧ ∀ y, Sn s' y ↔ Sn s y ∨ (y < l.length ∧ (y : Int) ∈ js[i] :: js.drop (i + 1)) := by
   intro hno
   obtain ⟨s', q1, q2, q3⟩ := nx l hl js hj x3 x4 x5 m (i + 1) s (by omega) hs
   refine ⟨s', q1, q2, fun y => ?_⟩
   rw [q3, List.mem_cons]
   constructor
   ·rintro (h1 | ⟨h1, h2⟩)
    ·exact .inl h1
    ·exact .inr ⟨h1, .inr h2⟩
   ·rintro (h1 | ⟨h1, h2 | h2⟩)
    ·exact .inl h1
    ·exact absurd ⟨y, h2.symm, h1⟩ hno
    ·exact .inr ⟨h1, h2⟩
  by_cases h0 : 0 ≤ js[i]
  ·rw [iP (by omega)]
   by_cases h1 : js[i] < (l.length : Int)
   ·obtain ⟨x, hx⟩ : ∃ x : Nat, js[i] = (x : Int) := ⟨js[i].toNat, by omega⟩
    rw [iP (by omega), iP (by omega), iP (by omega)]
    rw [hx] at h1 ⊢
    rw [Int.toNat_natCast x]
    obtain ⟨s', q1, q2, q3⟩ := nx l hl js hj x3 x4 x5 m (i + 1) (s.set x true) (by omega) (by simpa using hs)
    refine ⟨s', q1, q2, fun y => ?_⟩
    rw [q3, cT (by omega), List.mem_cons]
    constructor
    ·rintro ((rfl | h2) | ⟨h2, h3⟩)
     ·exact .inr ⟨by omega, .inl rfl⟩
     ·exact .inl h2
     ·exact .inr ⟨h2, .inr h3⟩
    ·rintro (h2 | ⟨h2, h3 | h3⟩)
     ·exact .inl (.inr h2)
     ·exact .inl (.inl (by omega))
     ·exact .inr ⟨h2, h3⟩
   ·rw [iN (by omega)]
    exact skip (by rintro ⟨y, h2, h3⟩; omega)
  ·rw [iN (by omega)]
   exact skip (by rintro ⟨y, h2, h3⟩; omega)
def FM (fr : List Int) (s : List Bool) (x : Nat) : Prop := (x : Int) ∈ fr ∨ Sn s x
theorem pe (l : List ab) (hl : l.length ≤ 65536) (fr : List Int) (hf : fr.length ≤ 65536) (x3 : Int) : ∀ (m i : Nat) (s : List Bool), i + m = l.length → s.length = l.length → ∃ s', bn s l fr x3 (i : Int) = some s' ∧ s'.length = l.length ∧ (∀ y, Sn s y → Sn s' y) ∧ (∀ Q : Nat → Prop, (∀ x y : Nat, ((x : Int) ∈ fr ∨ Q x) → To l x y → Q y) → (∀ y, Sn s y → Q y) → ∀ y, Sn s' y → Q y) ∧ ∀ x y, i ≤ x → FM fr s x → To l x y → Sn s' y
 | 0, i, s, h, hs => by
  rw [bn, iN (by omega)]
  exact ⟨s, rfl, hs, fun y h => h, fun Q _ h => h, fun x y hx _ e => by have := e.1; omega⟩
 | m + 1, i, s, h, hs => by
  have hle := mf (List.getD l i aa)
  rw [bn, iP (by omega), bind_some (CP fr hf _), inc i (by omega)]
  have go : FM fr s i → ∃ s', (bind (aT s (succ (List.getD l i aa)) l fr x3 (i : Int) 0) fun v => bn v l fr x3 ((i + 1 : Nat) : Int)) = some s' ∧ s'.length = l.length ∧ (∀ y, Sn s y → Sn s' y) ∧ (∀ Q : Nat → Prop, (∀ x y : Nat, ((x : Int) ∈ fr ∨ Q x) → To l x y → Q y) → (∀ y, Sn s y → Q y) → ∀ y, Sn s' y → Q y) ∧ ∀ x y, i ≤ x → FM fr s x → To l x y → Sn s' y := by
   intro hgo
   obtain ⟨s1, q1, q2, q3⟩ := nx l hl (succ (List.getD l i aa)) (by omega) fr x3 (i : Int) _ 0 s (Nat.zero_add _) hs
   rw [show ((0 : Nat) : Int) = 0 from rfl] at q1
   rw [bind_some q1]
   obtain ⟨s', k1, k2, k3, k4, k5⟩ := pe l hl fr hf x3 m (i + 1) s1 (by omega) q2
   refine ⟨s', k1, k2, fun y hy => k3 y ((q3 y).2 (.inl hy)), fun Q hQ hs1 => k4 Q hQ fun y hy => ?_, fun x y hx hg e => ?_⟩
   ·rcases (q3 y).1 hy with h1 | ⟨h1, h2⟩
    ·exact hs1 y h1
    ·exact hQ i y (hgo.elim .inl fun h => .inr (hs1 i h)) ⟨by omega, h1, by simpa using h2⟩
   ·rcases Nat.eq_or_lt_of_le hx with rfl | hx
    ·exact k3 y ((q3 y).2 (.inr ⟨e.2.1, by simpa using e.2.2⟩))
    ·exact k5 x y hx (hg.elim .inl fun h => .inr ((q3 x).2 (.inl h))) e
  by_cases hin : (i : Int) ∈ fr
  ·rw [if_neg (by simp [hin]), iP (by omega), iP (by omega), Int.toNat_natCast, bind_some (nw _)]
   exact go (.inl hin)
  ·rw [if_pos (by simp [hin]), iP (by omega), iP (by omega), Int.toNat_natCast]
   by_cases hsi : Sn s i
   ·rw [if_neg (by rw [show List.getD s i false = true from hsi]; decide), iP (by omega), bind_some (nw _)]
    exact go (.inr hsi)
   ·have hf1 : List.getD s i false = false := by
     unfold Sn at hsi
     simpa using hsi
    rw [if_pos (by rw [hf1]; rfl)]
    obtain ⟨s', k1, k2, k3, k4, k5⟩ := pe l hl fr hf x3 m (i + 1) s (by omega) hs
    refine ⟨s', k1, k2, k3, k4, fun x y hx hg e => ?_⟩
    rcases Nat.eq_or_lt_of_le hx with rfl | hx
    ·exact (hg.elim hin hsi).elim
    ·exact k5 x y hx hg e
theorem E4 {s s' : List Bool} (hl : s.length = s'.length) (h : ∀ y, Sn s y → Sn s' y) {y : Nat} (h1 : ¬ Sn s y) (h2 : Sn s' y) : s'.count false + 1 ≤ s.count false := by
 have hy : y < s.length := by have := h2.lt; omega
 have h3 := iM hy h1
 have h4 := nu (s.set y true) s' (by simpa using hl) fun x hx => by
  rcases (cT hy).1 hx with rfl | hx
  ·exact h2
  ·exact h x hx
 omega
def E5 (l : List ab) (fr : List Int) (s : List Bool) : Prop := ∀ x y, FM fr s x → To l x y → Sn s y
theorem vk (l : List ab) (hl : l.length ≤ 65536) (fr : List Int) (hf : fr.length ≤ 65536) : ∀ (m r : Nat) (s : List Bool), r + m = l.length + 1 → s.length = l.length → ∃ s', cO s l fr (r : Int) = some s' ∧ s'.length = l.length ∧ (∀ y, Sn s y → Sn s' y) ∧ (∀ Q : Nat → Prop, (∀ x y : Nat, ((x : Int) ∈ fr ∨ Q x) → To l x y → Q y) → (∀ y, Sn s y → Q y) → ∀ y, Sn s' y → Q y) ∧ (E5 l fr s' ∨ s'.count false + m ≤ s.count false)
 | 0, r, s, h, hs => by
  rw [cO, iN (by omega)]
  exact ⟨s, rfl, hs, fun y h => h, fun Q _ h => h, .inr (by omega)⟩
 | m + 1, r, s, h, hs => by
  obtain ⟨s1, g1, g2, g3, g4, g5⟩ := pe l hl fr hf (r : Int) l.length 0 s (by omega) hs
  rw [show ((0 : Nat) : Int) = 0 from rfl] at g1
  rw [cO, iP (by omega), bind_some g1, inc r (by omega)]
  obtain ⟨s', k1, k2, k3, k4, k5⟩ := vk l hl fr hf m (r + 1) s1 (by omega) g2
  refine ⟨s', k1, k2, fun y hy => k3 y (g3 y hy), fun Q hQ hsQ => k4 Q hQ (g4 Q hQ hsQ), ?_⟩
  by_cases hcl : E5 l fr s
  ·left
   have e1 : ∀ y, Sn s1 y → Sn s y := g4 (Sn s) (fun x y hx e => hcl x y hx e) fun y h => h
   have e2 : ∀ y, Sn s' y → Sn s y := k4 (Sn s) (fun x y hx e => hcl x y hx e) e1
   exact fun x y hx e => k3 y (g3 y (hcl x y (hx.elim .inl fun h => .inr (e2 x h)) e))
  ·rcases k5 with k5 | k5
   ·exact .inl k5
   ·right
    have : ∃ x y, FM fr s x ∧ To l x y ∧ ¬ Sn s y := by
     apply Classical.byContradiction
     intro hno
     exact hcl fun x y hx e => Classical.byContradiction fun h => hno ⟨x, y, hx, e, h⟩
    obtain ⟨x, y, h1, h2, h3⟩ := this
    have := E4 (by omega) g3 h3 (g5 x y (Nat.zero_le _) h1 h2)
    omega
theorem Bt (l : List ab) (hl : l.length ≤ 65536) (fr : List Int) (hf : fr.length ≤ 65536) : ∃ a, gJ l fr = some a ∧ a.length = l.length ∧ ∀ y, Sn a y ↔ Aft l fr y := by
 have hcnt := List.count_le_length (a := false) (l := List.replicate l.length false)
 rw [List.length_replicate] at hcnt
 obtain ⟨s', k1, k2, k3, k4, k5⟩ := vk l hl fr hf (l.length + 1) 0 (List.replicate l.length false) (Nat.zero_add _) (by simp)
 rw [show ((0 : Nat) : Int) = 0 from rfl] at k1
 have hsh : E5 l fr s' := by
  rcases k5 with h | h
  ·exact h
  ·omega
 unfold gJ
 rw [iP (by omega), if_pos (decide_eq_true (by simp only [az]; omega)), Int.toNat_natCast, bind_some k1]
 refine ⟨s', rfl, k2, fun y => ⟨k4 (Aft l fr) (fun x y hx e => hx.elim (fun h => .first h e) fun h => .more h e) (fun y h => absurd h (ca _ _)) y, fun h => ?_⟩⟩
 induction h with
 | first h1 h2 => exact hsh _ _ (.inl h1) h2
 | more _ h2 ih => exact hsh _ _ (.inr ih) h2
theorem gj.mono {m n : Nat} (h : m ≤ n) : ∀ {l : List Int}, gj n l → gj m l
 | [], _ => trivial
 | x :: l, hr => ⟨by have := hr.1; omega, hr.2⟩
theorem sP {b : Bool} {P : Prop} (hb : ¬ b = true) {c : Bool} (h : c = true ↔ P) : (c = true ↔ b = true ∨ P) := by rw [h]; simp [hb]
theorem gj.nat {n : Nat} : ∀ {l : List Int}, gj n l → ∀ x ∈ l, (n : Int) ≤ x ∧ x < 32
 | [], _, x, hx => by cases hx
 | y :: l, hr, x, hx => by
  obtain ⟨h1, h2, h3⟩ := hr
  rcases List.mem_cons.1 hx with rfl | hx
  ·exact ⟨h1, h2⟩
  ·have := gj.nat h3 x hx; omega
theorem gj.length_le {n : Nat} : ∀ {l : List Int}, gj n l → n ≤ 32 → l.length + n ≤ 32
 | [], _, h => by simpa using h
 | y :: l, hr, h => by
  obtain ⟨h1, h2, h3⟩ := hr
  have := gj.length_le h3 (by omega)
  rw [List.length_cons]
  omega
theorem vn (l : List ab) (hl : l.length ≤ 65536) (x0 : List Int) (k id : Int) : ∀ (m i : Nat) (b : Bool), i + m = l.length → ∃ b', bo x0 l k id b (i : Int) = some b' ∧ (b' = true ↔ b = true ∨ ∃ j, i ≤ j ∧ j < l.length ∧ (List.getD l j aa).kind = k ∧ (List.getD l j aa).arg = id)
 | 0, i, b, h => by
  rw [bo, iN (by omega)]
  exact ⟨b, rfl, ⟨.inl, fun h => h.elim (fun x => x) fun ⟨j, h1, h2, _⟩ => by omega⟩⟩
 | m + 1, i, b, h => by
  rw [bo, iP (by omega), inc i (by omega)]
  have fin : ∀ b1, (b1 = true ↔ b = true ∨ ((List.getD l i aa).kind = k ∧ (List.getD l i aa).arg = id)) → ∃ b', bo x0 l k id b1 ((i + 1 : Nat) : Int) = some b' ∧ (b' = true ↔ b = true ∨ ∃ j, i ≤ j ∧ j < l.length ∧ (List.getD l j aa).kind = k ∧ (List.getD l j aa).arg = id) := by
   intro b1 hb1
   obtain ⟨b', q1, q2⟩ := vn l hl x0 k id m (i + 1) b1 (by omega)
   refine ⟨b', q1, ?_⟩
   rw [q2, hb1]
   constructor
   ·rintro ((h1 | h1) | ⟨j, h1, h2⟩)
    ·exact .inl h1
    ·exact .inr ⟨i, Nat.le_refl _, by omega, h1⟩
    ·exact .inr ⟨j, by omega, h2⟩
   ·rintro (h1 | ⟨j, h1, h2, h3⟩)
    ·exact .inl (.inl h1)
    ·rcases Nat.eq_or_lt_of_le h1 with rfl | h4
     ·exact .inl (.inr h3)
     ·exact .inr ⟨j, h4, h2, h3⟩
  by_cases hb : b = true
  ·rw [if_pos hb]
   exact fin true (by simp [hb])
  ·rw [if_neg hb, iP (by omega), iP (by omega), Int.toNat_natCast]
   by_cases hk : (List.getD l i aa).kind = k
   ·rw [if_pos (eqT hk)]
    exact fin _ (sP hb (by rw [beq_iff_eq]; exact ⟨fun h => ⟨hk, h⟩, fun h => h.2⟩))
   ·rw [if_neg (eqF hk)]
    exact fin _ (sP hb ⟨(fun h => by cases h), fun h => absurd h.1 hk⟩)
theorem pf (l : List ab) (hl : l.length ≤ 65536) (k : Int) : ∀ (m i : Nat) (x0 : List Int), i + m = 32 → x0.length ≤ i → ∃ t, bW x0 l k (i : Int) = some (x0 ++ t) ∧ gj i t ∧ ∀ b : Nat, (b : Int) ∈ t ↔ i ≤ b ∧ b < 32 ∧ ∃ j, j < l.length ∧ (List.getD l j aa).kind = k ∧ (List.getD l j aa).arg = (b : Int)
 | 0, i, x0, h, hx => by
  rw [bW, iN (by omega)]
  exact ⟨[], by simp, trivial, fun b => by simp; omega⟩
 | m + 1, i, x0, h, hx => by
  obtain ⟨b, q1, q2⟩ := vn l hl x0 k (i : Int) l.length 0 false (by omega)
  rw [show ((0 : Nat) : Int) = 0 from rfl] at q1
  rw [bW, iP (by omega), bind_some q1, inc i (by omega)]
  have hb : b = true ↔ ∃ j, j < l.length ∧ (List.getD l j aa).kind = k ∧ (List.getD l j aa).arg = (i : Int) := by rw [q2]; simp
  by_cases hbt : b = true
  ·rw [if_pos hbt, if_pos (Nat.ble_eq_true_of_le (by simp only [List.length_singleton, az]; omega))]
   obtain ⟨t, g1, g2, g3⟩ := pf l hl k m (i + 1) (x0 ++ [(i : Int)]) (by omega) (by simp; omega)
   refine ⟨(i : Int) :: t, by rw [g1]; simp, ⟨Int.le_refl _, by omega, by rw [Int.toNat_natCast]; exact g2⟩, fun c => ?_⟩
   rw [List.mem_cons, g3]
   constructor
   ·rintro (h1 | ⟨h1, h2, h3⟩)
    ·have : c = i := by omega
     subst this
     exact ⟨Nat.le_refl _, by omega, hb.1 hbt⟩
    ·exact ⟨by omega, h2, h3⟩
   ·rintro ⟨h1, h2, h3⟩
    rcases Nat.eq_or_lt_of_le h1 with rfl | h4
    ·exact .inl rfl
    ·exact .inr ⟨h4, h2, h3⟩
  ·rw [if_neg hbt]
   obtain ⟨t, g1, g2, g3⟩ := pf l hl k m (i + 1) x0 (by omega) (by omega)
   refine ⟨t, g1, g2.mono (by omega), fun c => ?_⟩
   rw [g3]
   constructor
   ·rintro ⟨h1, h2, h3⟩; exact ⟨by omega, h2, h3⟩
   ·rintro ⟨h1, h2, h3⟩
    rcases Nat.eq_or_lt_of_le h1 with rfl | h4
    ·exact absurd (hb.2 h3) hbt
    ·exact ⟨h4, h2, h3⟩
theorem pg (l : List ab) (hl : l.length ≤ 65536) (k : Int) : ∃ t, fR l k = some t ∧ gj 0 t ∧ ∀ b : Nat, (b : Int) ∈ t ↔ b < 32 ∧ ∃ j, j < l.length ∧ (List.getD l j aa).kind = k ∧ (List.getD l j aa).arg = (b : Int) := by
 obtain ⟨t, q1, q2, q3⟩ := pf l hl k 32 0 [] rfl (by simp)
 rw [show ((0 : Nat) : Int) = 0 from rfl, List.nil_append] at q1
 unfold fR
 rw [bind_some q1]
 exact ⟨t, rfl, q2, fun b => by rw [q3]; simp⟩
theorem sQ (p : ae) (fr : List Int) (hfl : fr.length ≤ 65536) (hfr : ∀ x ∈ fr, 0 ≤ x) : ∀ (m i : Nat) (s : List Bool), i + m = fr.length → s.length = p.funcs.length → ∃ s', bY s p.globals p.locks p.slots p.funcs fr (p.funcs.length : Int) (i : Int) = some s' ∧ s'.length = p.funcs.length ∧ ∀ y, Sn s' y ↔ Sn s y ∨ (y < p.funcs.length ∧ (y : Int) ∈ fr.drop i)
 | 0, i, s, h, hs => by
  rw [bY, iN (by omega), List.drop_eq_nil_of_le (by omega)]
  exact ⟨s, rfl, hs, fun y => by simp⟩
 | m + 1, i, s, h, hs => by
  have hlt : i < fr.length := by omega
  have hd : fr.drop i = fr[i] :: fr.drop (i + 1) := List.drop_eq_getElem_cons hlt
  have hg : List.getD fr i 0 = fr[i] := by simp [List.getD, hlt]
  have h0 := hfr _ (List.getElem_mem hlt)
  rw [bY, iP (by omega), iP (by omega), iP (by omega), Int.toNat_natCast, hg, hd, inc i (by omega)]
  obtain ⟨x, hx⟩ : ∃ x : Nat, fr[i] = (x : Int) := ⟨fr[i].toNat, by omega⟩
  rw [hx]
  by_cases hxn : x < p.funcs.length
  ·rw [iP (by omega), iP (by omega), iP (by omega), Int.toNat_natCast]
   obtain ⟨s', q1, q2, q3⟩ := sQ p fr hfl hfr m (i + 1) (s.set x true) (by omega) (by simpa using hs)
   refine ⟨s', q1, q2, fun y => ?_⟩
   rw [q3, cT (by omega), List.mem_cons]
   constructor
   ·rintro ((rfl | h1) | ⟨h1, h2⟩)
    ·exact .inr ⟨hxn, .inl rfl⟩
    ·exact .inl h1
    ·exact .inr ⟨h1, .inr h2⟩
   ·rintro (h1 | ⟨h1, h2 | h2⟩)
    ·exact .inl (.inr h1)
    ·exact .inl (.inl (by omega))
    ·exact .inr ⟨h1, h2⟩
  ·rw [iN (by omega)]
   obtain ⟨s', q1, q2, q3⟩ := sQ p fr hfl hfr m (i + 1) s (by omega) hs
   refine ⟨s', q1, q2, fun y => ?_⟩
   rw [q3, List.mem_cons]
   constructor
   ·rintro (h1 | ⟨h1, h2⟩)
    ·exact .inl h1
    ·exact .inr ⟨h1, .inr h2⟩
   ·rintro (h1 | ⟨h1, h2 | h2⟩)
    ·exact .inl h1
    ·omega
    ·exact .inr ⟨h1, h2⟩
theorem uj (calls : List Int) (hcl : calls.length ≤ 65536) (n f : Nat) (hf : f < n) (hcr : ∀ x ∈ calls, 0 ≤ x ∧ x < (n : Int)) (x2 x3 x4 : Int) (x5 : FS) (x7 : Int) : ∀ (m i : Nat) (s : List Bool), i + m = calls.length → s.length = n → ∃ s', aU s calls x2 x3 x4 x5 (n : Int) x7 (f : Int) (i : Int) = some s' ∧ s'.length = n ∧ ∀ y, Sn s' y ↔ Sn s y ∨ (Sn s f ∧ (y : Int) ∈ calls.drop i)
 | 0, i, s, h, hs => by
  rw [aU, iN (by omega), List.drop_eq_nil_of_le (by omega)]
  exact ⟨s, rfl, hs, fun y => by simp⟩
 | m + 1, i, s, h, hs => by
  have hlt : i < calls.length := by omega
  have hd : calls.drop i = calls[i] :: calls.drop (i + 1) := List.drop_eq_getElem_cons hlt
  have hg : List.getD calls i 0 = calls[i] := by simp [List.getD, hlt]
  have h0 := hcr _ (List.getElem_mem hlt)
  rw [aU, iP (by omega), iP (by omega), iP (by omega), inc i (by omega)]
  rw [Int.toNat_natCast f, Int.toNat_natCast i]
  by_cases hsf : Sn s f
  ·rw [if_pos (show List.getD s f false = true from hsf), iP (by omega), iP (by omega), hg, hd]
   obtain ⟨x, hx⟩ : ∃ x : Nat, calls[i] = (x : Int) := ⟨calls[i].toNat, by omega⟩
   rw [hx] at h0 ⊢
   rw [iP (by omega), iP (by omega), iP (by omega), Int.toNat_natCast]
   obtain ⟨s', q1, q2, q3⟩ := uj calls hcl n f hf hcr x2 x3 x4 x5 x7 m (i + 1) (s.set x true) (by omega) (by simpa using hs)
   refine ⟨s', q1, q2, fun y => ?_⟩
   rw [q3, cT (by omega), cT (by omega), List.mem_cons]
   constructor
   ·rintro ((rfl | h1) | ⟨_, h2⟩)
    ·exact .inr ⟨hsf, .inl rfl⟩
    ·exact .inl h1
    ·exact .inr ⟨hsf, .inr h2⟩
   ·rintro (h1 | ⟨h1, h2 | h2⟩)
    ·exact .inl (.inr h1)
    ·exact .inl (.inl (by omega))
    ·exact .inr ⟨.inr h1, h2⟩
  ·rw [if_neg (show ¬ List.getD s f false = true from hsf)]
   obtain ⟨s', q1, q2, q3⟩ := uj calls hcl n f hf hcr x2 x3 x4 x5 x7 m (i + 1) s (by omega) hs
   refine ⟨s', q1, q2, fun y => ?_⟩
   rw [q3]
   simp [hsf]
theorem CQ {fs : FS} {f : Nat} {t : List Int} (he : ∀ b, Edge fs f b → b < 32) (ht : ∀ b : Nat, (b : Int) ∈ t ↔ b < 32 ∧ ∃ j, j < (List.getD fs f []).length ∧ (List.getD (List.getD fs f []) j aa).kind = 7 ∧ (List.getD (List.getD fs f []) j aa).arg = (b : Int)) (b : Nat) : (b : Int) ∈ t ↔ Edge fs f b := by
 rw [ht]
 exact ⟨fun h => h.2, fun h => ⟨he b h, h⟩⟩
theorem zD (p : ae) (hg : dI p) (x6 : Int) : ∀ (m f : Nat) (s : List Bool), f + m = p.funcs.length → s.length = p.funcs.length → ∃ s', bb s p.globals p.locks p.slots p.funcs (p.funcs.length : Int) x6 (f : Int) = some s' ∧ s'.length = p.funcs.length ∧ (∀ y, Sn s y → Sn s' y) ∧ (∀ Q : Nat → Prop, (∀ x y, Q x → Edge p.funcs x y → Q y) → (∀ y, Sn s y → Q y) → ∀ y, Sn s' y → Q y) ∧ ∀ x y, f ≤ x → Sn s x → Edge p.funcs x y → Sn s' y
 | 0, f, s, h, hs => by
  rw [bb, iN (by omega)]
  exact ⟨s, rfl, hs, fun y h => h, fun Q _ h => h, fun x y hx hsx _ => by have := hsx.lt; omega⟩
 | m + 1, f, s, h, hs => by
  have hle := hg.le f
  have hn := hg.funcs.2
  obtain ⟨t, q1, q2, q3⟩ := pg (List.getD p.funcs f []) (by omega) 7
  have he : ∀ b, Edge p.funcs f b → b < 32 := fun b e => by have := (e.lt hg.calls).2; omega
  have hmem := CQ he q3
  have htn := q2.nat
  have htl := q2.length_le (by omega)
  obtain ⟨s1, g1, g2, g3⟩ := uj t (by omega) p.funcs.length f (by omega) (fun x hx => by
   have h0 := htn x hx
   obtain ⟨b, rfl⟩ : ∃ b : Nat, x = (b : Int) := ⟨x.toNat, by omega⟩
   have := (((hmem b).1 hx).lt hg.calls).2
   omega) p.globals p.locks p.slots p.funcs x6 t.length 0 s (by omega) hs
  rw [show ((0 : Nat) : Int) = 0 from rfl] at g1
  rw [bb, iP (by omega), iP (by omega), iP (by omega), Int.toNat_natCast, bind_some q1, bind_some g1, inc f (by omega)]
  obtain ⟨s', k1, k2, k3, k4, k5⟩ := zD p hg x6 m (f + 1) s1 (by omega) g2
  refine ⟨s', k1, k2, fun y hy => k3 y ((g3 y).2 (.inl hy)), fun Q hQ hsQ => k4 Q hQ fun y hy => ?_, fun x y hx hsx e => ?_⟩
  ·rcases (g3 y).1 hy with h1 | ⟨h1, h2⟩
   ·exact hsQ y h1
   ·rw [List.drop_zero] at h2
    exact hQ f y (hsQ f h1) ((hmem y).1 h2)
  ·rcases Nat.eq_or_lt_of_le hx with rfl | hx
   ·exact k3 y ((g3 y).2 (.inr ⟨hsx, by rw [List.drop_zero]; exact (hmem y).2 e⟩))
   ·exact k5 x y hx ((g3 x).2 (.inl hsx)) e
theorem mg {s s' : List Bool} (hl : s.length = s'.length) (h : ∀ y, Sn s y → Sn s' y) {y : Nat} (h1 : ¬ Sn s y) (h2 : Sn s' y) : s'.count false + 1 ≤ s.count false := by
 have hy : y < s.length := by have := h2.lt; omega
 have h3 := iM hy h1
 have h4 := nu (s.set y true) s' (by simpa using hl) fun x hx => by
  rcases (cT hy).1 hx with rfl | hx
  ·exact h2
  ·exact h x hx
 omega
def CR (fs : FS) (s : List Bool) : Prop := ∀ x, Sn s x → ∀ y, Edge fs x y → Sn s y
theorem Bu (p : ae) (hg : dI p) : ∀ (m r : Nat) (s : List Bool), r + m = p.funcs.length → s.length = p.funcs.length → ∃ s', bp s p.globals p.locks p.slots p.funcs (p.funcs.length : Int) (r : Int) = some s' ∧ s'.length = p.funcs.length ∧ (∀ y, Sn s y → Sn s' y) ∧ (∀ Q : Nat → Prop, (∀ x y, Q x → Edge p.funcs x y → Q y) → (∀ y, Sn s y → Q y) → ∀ y, Sn s' y → Q y) ∧ (CR p.funcs s' ∨ s'.count false + m ≤ s.count false)
 | 0, r, s, h, hs => by
  rw [bp, iN (by omega)]
  exact ⟨s, rfl, hs, fun y h => h, fun Q _ h => h, .inr (by omega)⟩
 | m + 1, r, s, h, hs => by
  have hn := hg.funcs.2
  obtain ⟨s1, g1, g2, g3, g4, g5⟩ := zD p hg (r : Int) p.funcs.length 0 s (by omega) hs
  rw [show ((0 : Nat) : Int) = 0 from rfl] at g1
  rw [bp, iP (by omega), bind_some g1, inc r (by omega)]
  obtain ⟨s', k1, k2, k3, k4, k5⟩ := Bu p hg m (r + 1) s1 (by omega) g2
  refine ⟨s', k1, k2, fun y hy => k3 y (g3 y hy), fun Q hQ hsQ => k4 Q hQ (g4 Q hQ hsQ), ?_⟩
  by_cases hcl : CR p.funcs s
  ·left
   have e1 : ∀ y, Sn s1 y → Sn s y := g4 (Sn s) (fun x y hx e => hcl x hx y e) fun y h => h
   have e2 : ∀ y, Sn s' y → Sn s y := fun y hy => e1 y (by
    have := k4 (Sn s1) (fun x y hx e => g3 y (hcl x (e1 x hx) y e)) (fun y h => h) y hy
    exact this)
   exact fun x hx y e => k3 y (g3 y (hcl x (e2 x hx) y e))
  ·rcases k5 with k5 | k5
   ·exact .inl k5
   ·right
    have : ∃ x y, Sn s x ∧ Edge p.funcs x y ∧ ¬ Sn s y := by
     apply Classical.byContradiction
     intro hno
     exact hcl fun x hx y e => Classical.byContradiction fun h => hno ⟨x, y, hx, e, h⟩
    obtain ⟨x, y, h1, h2, h3⟩ := this
    have := mg (by omega) g3 h3 (g5 x y (Nat.zero_le _) h1 h2)
    omega
theorem qh (s : List Bool) (n : Nat) (hn : n ≤ 32) (hs : s.length = n) : ∀ (m f : Nat) (x0 : List Int), f + m = n → x0.length ≤ f → ∃ t, bH s x0 (n : Int) (f : Int) = some (x0 ++ t) ∧ gj f t ∧ ∀ b : Nat, (b : Int) ∈ t ↔ f ≤ b ∧ Sn s b
 | 0, f, x0, h, hx => by
  rw [bH, iN (by omega)]
  exact ⟨[], by simp, trivial, fun b => by simp; intro h1 h2; have := h2.lt; omega⟩
 | m + 1, f, x0, h, hx => by
  rw [bH, iP (by omega), iP (by omega), iP (by omega), iP (by omega), Int.toNat_natCast, inc f (by omega)]
  by_cases hf : Sn s f
  ·rw [if_pos (show List.getD s f false = true from hf), if_pos (Nat.ble_eq_true_of_le (by simp only [List.length_singleton, az]; omega))]
   obtain ⟨t, g1, g2, g3⟩ := qh s n hn hs m (f + 1) (x0 ++ [(f : Int)]) (by omega) (by simp; omega)
   refine ⟨(f : Int) :: t, by rw [g1]; simp, ⟨Int.le_refl _, by omega, by rw [Int.toNat_natCast]; exact g2⟩, fun b => ?_⟩
   rw [List.mem_cons, g3]
   constructor
   ·rintro (h1 | ⟨h1, h2⟩)
    ·have : b = f := by omega
     subst this
     exact ⟨Nat.le_refl _, hf⟩
    ·exact ⟨by omega, h2⟩
   ·rintro ⟨h1, h2⟩
    rcases Nat.eq_or_lt_of_le h1 with rfl | h3
    ·exact .inl rfl
    ·exact .inr ⟨h3, h2⟩
  ·rw [if_neg (show ¬ List.getD s f false = true from hf)]
   obtain ⟨t, g1, g2, g3⟩ := qh s n hn hs m (f + 1) x0 (by omega) (by omega)
   refine ⟨t, g1, g2.mono (by omega), fun b => ?_⟩
   rw [g3]
   constructor
   ·rintro ⟨h1, h2⟩; exact ⟨by omega, h2⟩
   ·rintro ⟨h1, h2⟩
    rcases Nat.eq_or_lt_of_le h1 with rfl | h3
    ·exact absurd h2 hf
    ·exact ⟨h3, h2⟩
theorem Bv (p : ae) (hg : dI p) (f : Nat) (hf : f < p.funcs.length) : ∃ t, dF p [(f : Int)] = some t ∧ gj 0 t ∧ ∀ b : Nat, (b : Int) ∈ t ↔ ja p.funcs f b := by
 have hn := hg.funcs.2
 unfold dF
 rw [iP (by omega), if_pos (decide_eq_true (by simp only [az]; omega)), Int.toNat_natCast]
 obtain ⟨s0, q1, q2, q3⟩ := sQ p [(f : Int)] (by simp) (by simp) 1 0 (List.replicate p.funcs.length false) rfl (by simp)
 rw [show ((0 : Nat) : Int) = 0 from rfl] at q1
 have h0 : ∀ y, Sn s0 y ↔ y = f := fun y => by
  rw [q3, List.drop_zero, List.mem_singleton]
  constructor
  ·rintro (h1 | ⟨_, h2⟩)
   ·exact absurd h1 (ca _ _)
   ·omega
  ·rintro rfl; exact .inr ⟨hf, rfl⟩
 obtain ⟨s, g1, g2, g3, g4, g5⟩ := Bu p hg p.funcs.length 0 s0 (by omega) q2
 rw [show ((0 : Nat) : Int) = 0 from rfl] at g1
 obtain ⟨t, k1, k2, k3⟩ := qh s p.funcs.length (by omega) g2 p.funcs.length 0 [] (by omega) (by simp)
 rw [show ((0 : Nat) : Int) = 0 from rfl, List.nil_append] at k1
 rw [bind_some q1, bind_some g1, bind_some k1]
 have hcl : CR p.funcs s := by
  rcases g5 with h | h
  ·exact h
  ·exfalso
   have h1 := mg (s := List.replicate p.funcs.length false) (s' := s0) (by simp [q2]) (fun y hy => absurd hy (ca _ _)) (ca _ f) ((h0 f).2 rfl)
   have h2 := List.count_le_length (a := false) (l := List.replicate p.funcs.length false)
   rw [List.length_replicate] at h2
   omega
 refine ⟨t, rfl, k2, fun b => ?_⟩
 rw [k3]
 constructor
 ·rintro ⟨_, h1⟩
  exact g4 (ja p.funcs f) (fun x y hx e => hx.snoc e) (fun y hy => by rw [(h0 y).1 hy]; exact .refl _) b h1
 ·intro h1
  exact ⟨Nat.zero_le _, kY (fun x hx y e => hcl x hx y e) h1 (g3 f ((h0 f).2 rfl))⟩
def Has (fs : FS) (k1 k2 : Int) (g : Nat) (id : Int) : Prop := ∃ j, j < (List.getD fs g []).length ∧ ((List.getD (List.getD fs g []) j aa).kind = k1 ∨ (List.getD (List.getD fs g []) j aa).kind = k2) ∧ (List.getD (List.getD fs g []) j aa).arg = id
theorem xj (fs : FS) (l : List Int) (hln : l.length ≤ 65536) (i g : Nat) (hi : i < l.length) (hg : List.getD l i 0 = (g : Int)) (hgn : g < fs.length) (hlen : (List.getD fs g []).length ≤ 65536) (x1 : List Int) (x2 x3 x4 k1 k2 id : Int) : ∀ (m j : Nat) (b : Bool), j + m = (List.getD fs g []).length → ∃ b', aX l x1 x2 x3 x4 fs k1 k2 id b (i : Int) (j : Int) = some b' ∧ (b' = true ↔ b = true ∨ ∃ q, j ≤ q ∧ q < (List.getD fs g []).length ∧ ((List.getD (List.getD fs g []) q aa).kind = k1 ∨ (List.getD (List.getD fs g []) q aa).kind = k2) ∧ (List.getD (List.getD fs g []) q aa).arg = id)
 | 0, j, b, h => by
  rw [aX, iP (by omega), iP (by omega), Int.toNat_natCast, hg, iP (by omega), iP (by omega), Int.toNat_natCast, iN (by omega)]
  exact ⟨b, rfl, ⟨.inl, fun h => h.elim (fun x => x) fun ⟨q, h1, h2, _⟩ => by omega⟩⟩
 | m + 1, j, b, h => by
  rw [aX, iP (by omega), iP (by omega), Int.toNat_natCast, hg, iP (by omega), iP (by omega), Int.toNat_natCast, iP (by omega), iP (by omega), iP (by omega), Int.toNat_natCast, inc j (by omega)]
  have fin : ∀ b1, (b1 = true ↔ b = true ∨ (((List.getD (List.getD fs g []) j aa).kind = k1 ∨ (List.getD (List.getD fs g []) j aa).kind = k2) ∧ (List.getD (List.getD fs g []) j aa).arg = id)) → ∃ b', aX l x1 x2 x3 x4 fs k1 k2 id b1 (i : Int) ((j + 1 : Nat) : Int) = some b' ∧ (b' = true ↔ b = true ∨ ∃ q, j ≤ q ∧ q < (List.getD fs g []).length ∧ ((List.getD (List.getD fs g []) q aa).kind = k1 ∨ (List.getD (List.getD fs g []) q aa).kind = k2) ∧ (List.getD (List.getD fs g []) q aa).arg = id) := by
   intro b1 hb1
   obtain ⟨b', q1, q2⟩ := xj fs l hln i g hi hg hgn hlen x1 x2 x3 x4 k1 k2 id m (j + 1) b1 (by omega)
   refine ⟨b', q1, ?_⟩
   rw [q2, hb1]
   constructor
   ·rintro ((h1 | h1) | ⟨q, h1, h2⟩)
    ·exact .inl h1
    ·exact .inr ⟨j, Nat.le_refl _, by omega, h1⟩
    ·exact .inr ⟨q, by omega, h2⟩
   ·rintro (h1 | ⟨q, h1, h2, h3⟩)
    ·exact .inl (.inl h1)
    ·rcases Nat.eq_or_lt_of_le h1 with rfl | h4
     ·exact .inl (.inr h3)
     ·exact .inr ⟨q, h4, h2, h3⟩
  by_cases hb : b = true
  ·rw [if_pos hb]
   exact fin true (by simp [hb])
  ·rw [if_neg hb]
   by_cases e1 : (List.getD (List.getD fs g []) j aa).kind = k1
   ·rw [if_pos (eqT e1)]
    exact fin _ (sP hb (by rw [beq_iff_eq]; exact ⟨fun h => ⟨.inl e1, h⟩, fun h => h.2⟩))
   ·rw [if_neg (eqF e1)]
    by_cases e2 : (List.getD (List.getD fs g []) j aa).kind = k2
    ·rw [if_pos (eqT e2)]
     exact fin _ (sP hb (by rw [beq_iff_eq]; exact ⟨fun h => ⟨.inr e2, h⟩, fun h => h.2⟩))
    ·rw [if_neg (eqF e2)]
     exact fin _ (sP hb ⟨(fun h => by cases h), fun h => h.1.elim (fun h => absurd h e1) fun h => absurd h e2⟩)
theorem zE (fs : FS) (hlen : ∀ g, (List.getD fs g []).length ≤ 65536) (l : List Int) (hln : l.length ≤ 65536) (hl : ∀ x ∈ l, 0 ≤ x ∧ x < (fs.length : Int)) (x1 : List Int) (x2 x3 x4 k1 k2 id : Int) : ∀ (m i : Nat) (b : Bool), i + m = l.length → ∃ b', cx l x1 x2 x3 x4 fs k1 k2 id b (i : Int) = some b' ∧ (b' = true ↔ b = true ∨ ∃ g : Nat, (g : Int) ∈ l.drop i ∧ Has fs k1 k2 g id)
 | 0, i, b, h => by
  rw [cx, iN (by omega), List.drop_eq_nil_of_le (by omega)]
  exact ⟨b, rfl, by simp⟩
 | m + 1, i, b, h => by
  have hlt : i < l.length := by omega
  have hd : l.drop i = l[i] :: l.drop (i + 1) := List.drop_eq_getElem_cons hlt
  have hg : List.getD l i 0 = l[i] := by simp [List.getD, hlt]
  have h0 := hl _ (List.getElem_mem hlt)
  obtain ⟨g, hx⟩ : ∃ x : Nat, l[i] = (x : Int) := ⟨l[i].toNat, by omega⟩
  rw [hx] at h0
  obtain ⟨b1, q1, q2⟩ := xj fs l hln i g hlt (hg.trans hx) (by omega) (hlen g) x1 x2 x3 x4 k1 k2 id (List.getD fs g []).length 0 b (by omega)
  rw [show ((0 : Nat) : Int) = 0 from rfl] at q1
  rw [cx, iP (by omega), bind_some q1, inc i (by omega)]
  obtain ⟨b', k1', k2'⟩ := zE fs hlen l hln hl x1 x2 x3 x4 k1 k2 id m (i + 1) b1 (by omega)
  refine ⟨b', k1', ?_⟩
  rw [k2', q2, hd, hx]
  constructor
  ·rintro ((h1 | ⟨q, _, h2⟩) | ⟨c, h1, h2⟩)
   ·exact .inl h1
   ·exact .inr ⟨g, by simp, q, h2⟩
   ·exact .inr ⟨c, List.mem_cons_of_mem _ h1, h2⟩
  ·rintro (h1 | ⟨c, h1, h2⟩)
   ·exact .inl (.inl h1)
   ·rcases List.mem_cons.1 h1 with h3 | h3
    ·have : c = g := by omega
     subst this
     obtain ⟨q, h4⟩ := h2
     exact .inl (.inr ⟨q, Nat.zero_le _, h4⟩)
    ·exact .inr ⟨c, h3, h2⟩
theorem uk (fs : FS) (hlen : ∀ g, (List.getD fs g []).length ≤ 65536) (l : List Int) (hln : l.length ≤ 65536) (hl : ∀ x ∈ l, 0 ≤ x ∧ x < (fs.length : Int)) (x2 x3 x4 k1 k2 : Int) : ∀ (m i : Nat) (x0 : List Int), i + m = 32 → x0.length ≤ i → ∃ t, bK l x0 x2 x3 x4 fs k1 k2 (i : Int) = some (x0 ++ t) ∧ gj i t ∧ ∀ b : Nat, (b : Int) ∈ t ↔ i ≤ b ∧ b < 32 ∧ ∃ g : Nat, (g : Int) ∈ l ∧ Has fs k1 k2 g (b : Int)
 | 0, i, x0, h, hx => by
  rw [bK, iN (by omega)]
  exact ⟨[], by simp, trivial, fun b => by simp; omega⟩
 | m + 1, i, x0, h, hx => by
  obtain ⟨b, q1, q2⟩ := zE fs hlen l hln hl x0 x2 x3 x4 k1 k2 (i : Int) l.length 0 false (by omega)
  rw [show ((0 : Nat) : Int) = 0 from rfl] at q1
  rw [bK, iP (by omega), bind_some q1, inc i (by omega)]
  have hb : b = true ↔ ∃ g : Nat, (g : Int) ∈ l ∧ Has fs k1 k2 g (i : Int) := by rw [q2]; simp
  by_cases hbt : b = true
  ·rw [if_pos hbt, if_pos (Nat.ble_eq_true_of_le (by simp only [List.length_singleton, az]; omega))]
   obtain ⟨t, g1, g2, g3⟩ := uk fs hlen l hln hl x2 x3 x4 k1 k2 m (i + 1) (x0 ++ [(i : Int)]) (by omega) (by simp; omega)
   refine ⟨(i : Int) :: t, by rw [g1]; simp, ⟨Int.le_refl _, by omega, by rw [Int.toNat_natCast]; exact g2⟩, fun c => ?_⟩
   rw [List.mem_cons, g3]
   constructor
   ·rintro (h1 | ⟨h1, h2, h3⟩)
    ·have : c = i := by omega
     subst this
     exact ⟨Nat.le_refl _, by omega, hb.1 hbt⟩
    ·exact ⟨by omega, h2, h3⟩
   ·rintro ⟨h1, h2, h3⟩
    rcases Nat.eq_or_lt_of_le h1 with rfl | h4
    ·exact .inl rfl
    ·exact .inr ⟨h4, h2, h3⟩
  ·rw [if_neg hbt]
   obtain ⟨t, g1, g2, g3⟩ := uk fs hlen l hln hl x2 x3 x4 k1 k2 m (i + 1) x0 (by omega) (by omega)
   refine ⟨t, g1, g2.mono (by omega), fun c => ?_⟩
   rw [g3]
   constructor
   ·rintro ⟨h1, h2, h3⟩; exact ⟨by omega, h2, h3⟩
   ·rintro ⟨h1, h2, h3⟩
    rcases Nat.eq_or_lt_of_le h1 with rfl | h4
    ·exact absurd (hb.2 h3) hbt
    ·exact ⟨h4, h2, h3⟩
theorem ny (p : ae) (hg : dI p) (f : Nat) (hf : f < p.funcs.length) (k1 k2 : Int) : ∃ t, a8 p (f : Int) k1 k2 = some t ∧ gj 0 t ∧ ∀ b : Nat, (b : Int) ∈ t ↔ b < 32 ∧ ∃ g, ja p.funcs f g ∧ Has p.funcs k1 k2 g (b : Int) := by
 obtain ⟨l, q1, q2, q3⟩ := Bv p hg f hf
 have hpath : ∀ {g}, ja p.funcs f g → g < p.funcs.length := fun h => kY (S := fun x => x < p.funcs.length) (fun x _ y e => (e.lt hg.calls).2) h hf
 obtain ⟨t, g1, g2, g3⟩ := uk p.funcs (fun g => by have := hg.le g; omega) l (by have := q2.length_le (by omega); omega) (fun x hx => by
  have h0 := q2.nat x hx
  obtain ⟨b, rfl⟩ : ∃ b : Nat, x = (b : Int) := ⟨x.toNat, by omega⟩
  have := hpath ((q3 b).1 hx)
  omega) p.globals p.locks p.slots k1 k2 32 0 [] rfl (by simp)
 rw [show ((0 : Nat) : Int) = 0 from rfl, List.nil_append] at g1
 unfold a8
 rw [bind_some q1, bind_some g1]
 refine ⟨t, rfl, g2, fun b => ?_⟩
 rw [g3]
 constructor
 ·rintro ⟨_, h1, g, h2, h3⟩; exact ⟨h1, g, (q3 g).1 h2, h3⟩
 ·rintro ⟨h1, g, h2, h3⟩; exact ⟨Nat.zero_le _, h1, g, (q3 g).2 h2, h3⟩
def May (fs : FS) (of : ab → W32) (f b : Nat) : Prop := ∃ g, ja fs f g ∧ ∃ j, j < (List.getD fs g []).length ∧ (of (List.getD (List.getD fs g []) j aa)).getLsbD b = true
theorem fg (l : List W32) (i j : Nat) (x : W32) (hi : i < l.length) : List.getD (l.set i x) j 0#32 = if j = i then x else List.getD l j 0#32 := by
 by_cases h : j = i
 ·subst h; simp [List.getD, hi]
 ·have : i ≠ j := fun e => h e.symm
  rw [if_neg h]
  simp [List.getD, List.getElem?_set, this]
theorem lA {l : List Int} {k : Nat} {y : Int} (h : y ∈ l.take k) : ∃ i, i < k ∧ i < l.length ∧ List.getD l i 0 = y := by
 obtain ⟨i, hi, e⟩ := List.mem_iff_getElem.1 h
 rw [List.length_take] at hi
 refine ⟨i, by omega, by omega, ?_⟩
 rw [List.getElem_take] at e
 rw [← e]
 simp [List.getD, show i < l.length by omega]
def ofT (x : ab) : W32 := if x.kind = 1 ∨ x.kind = 2 then one x.arg else 0#32
def ofB (x : ab) : W32 := if x.kind = 5 then 1#32 else 0#32
theorem Ik (x : ab) : kR x = some (ofB x) := by
 unfold kR ofB
 by_cases h : x.kind = 5
 ·rw [if_pos (eqT h), if_pos h]
 ·rw [if_neg (eqF h), if_neg h]
theorem IT {x : ab} (h : x.kind = 7) : ofT x = 0#32 := by unfold ofT; rw [if_neg (by omega)]
theorem IU {x : ab} (h : x.kind = 7) : ofB x = 0#32 := by unfold ofB; rw [if_neg (by omega)]
theorem xk (p : ae) (hg : dI p) (f : Nat) (hf : f < p.funcs.length) (x1 : List Int) (x7 x8 : Int) : ∀ (m i : Nat) (o : List W32), i + m = (List.getD p.funcs f []).length → o.length = p.funcs.length → ∃ o', dN o x1 p.globals p.locks p.slots p.funcs (f : Int) x7 x8 (List.getD p.funcs f []) ((List.getD p.funcs f []).length : Int) (i : Int) = some o' ∧ o'.length = p.funcs.length ∧ (∀ g, g ≠ f → List.getD o' g 0#32 = List.getD o g 0#32) ∧
  ∀ b, (List.getD o' f 0#32).getLsbD b = true ↔ (List.getD o f 0#32).getLsbD b = true ∨ ∃ j, i ≤ j ∧ j < (List.getD p.funcs f []).length ∧ (((List.getD (List.getD p.funcs f []) j aa).kind = 7 ∧ (List.getD o (List.getD (List.getD p.funcs f []) j aa).arg.toNat 0#32).getLsbD b = true) ∨ (ofB (List.getD (List.getD p.funcs f []) j aa)).getLsbD b = true)
 | 0, i, o, h, ho => by
  rw [dN, iN (by omega)]
  exact ⟨o, rfl, ho, fun g _ => rfl, fun b => ⟨.inl, fun h => h.elim (fun x => x) fun ⟨j, h1, h2, _⟩ => by omega⟩⟩
 | m + 1, i, o, h, ho => by
  have hle := hg.le f
  rw [dN, iP (by omega), iP (by omega), iP (by omega), Int.toNat_natCast i, inc i (by omega)]
  have fin : ∀ (y : W32), (∀ b, y.getLsbD b = true ↔ (((List.getD (List.getD p.funcs f []) i aa).kind = 7 ∧ (List.getD o (List.getD (List.getD p.funcs f []) i aa).arg.toNat 0#32).getLsbD b = true) ∨ (ofB (List.getD (List.getD p.funcs f []) i aa)).getLsbD b = true)) →
    ∃ o', dN (o.set f (List.getD o f 0#32 ||| y)) x1 p.globals p.locks p.slots p.funcs (f : Int) x7 x8 (List.getD p.funcs f []) ((List.getD p.funcs f []).length : Int) ((i + 1 : Nat) : Int) = some o' ∧ o'.length = p.funcs.length ∧ (∀ g, g ≠ f → List.getD o' g 0#32 = List.getD o g 0#32) ∧
    ∀ b, (List.getD o' f 0#32).getLsbD b = true ↔ (List.getD o f 0#32).getLsbD b = true ∨ ∃ j, i ≤ j ∧ j < (List.getD p.funcs f []).length ∧ (((List.getD (List.getD p.funcs f []) j aa).kind = 7 ∧ (List.getD o (List.getD (List.getD p.funcs f []) j aa).arg.toNat 0#32).getLsbD b = true) ∨ (ofB (List.getD (List.getD p.funcs f []) j aa)).getLsbD b = true) := by
   intro y hy
   obtain ⟨o', q1, q2, q3, q4⟩ := xk p hg f hf x1 x7 x8 m (i + 1) (o.set f (List.getD o f 0#32 ||| y)) (by omega) (by simpa using ho)
   refine ⟨o', q1, q2, fun g hgf => by rw [q3 g hgf, fg _ _ _ _ (by omega), if_neg hgf], fun b => ?_⟩
   rw [q4, fg _ _ _ _ (by omega), if_pos rfl, BitVec.getLsbD_or, Bool.or_eq_true, hy]
   have hsame : ∀ j, j < (List.getD p.funcs f []).length → (List.getD (List.getD p.funcs f []) j aa).kind = 7 → List.getD (o.set f (List.getD o f 0#32 ||| y)) (List.getD (List.getD p.funcs f []) j aa).arg.toNat 0#32 = List.getD o (List.getD (List.getD p.funcs f []) j aa).arg.toNat 0#32 := fun j hj hk => by
    rw [fg _ _ _ _ (by omega), if_neg]
    intro e
    have hc := hg.calls f j hf hj hk
    exact hg.acyc f j hf hj ⟨hk, f, by omega, .refl _⟩
   constructor
   ·rintro ((h1 | h1) | ⟨j, h1, h2, h3⟩)
    ·exact .inl h1
    ·exact .inr ⟨i, Nat.le_refl _, by omega, h1⟩
    ·refine .inr ⟨j, by omega, h2, h3.imp (fun h4 => ⟨h4.1, ?_⟩) fun x => x⟩
     rw [← hsame j h2 h4.1]; exact h4.2
   ·rintro (h1 | ⟨j, h1, h2, h3⟩)
    ·exact .inl (.inl h1)
    ·rcases Nat.eq_or_lt_of_le h1 with rfl | h5
     ·exact .inl (.inr h3)
     ·refine .inr ⟨j, h5, h2, h3.imp (fun h4 => ⟨h4.1, ?_⟩) fun x => x⟩
      rw [hsame j h2 h4.1]; exact h4.2
  by_cases hk : (List.getD (List.getD p.funcs f []) i aa).kind = 7
  ·have hc := hg.calls f i hf (by omega) hk
   rw [if_pos (eqT hk), iP (by omega), iP (by omega), if_pos (decide_eq_true hc.1), iP (by omega), Int.toNat_natCast f]
   exact fin _ fun b => by rw [IU hk]; simp only [hk, true_and, BitVec.getLsbD_zero, Bool.false_eq_true, or_false]
  ·rw [if_neg (eqF hk), iP (by omega), iP (by omega), bind_some (Ik _), Int.toNat_natCast f]
   exact fin _ fun b => by simp only [hk, false_and, false_or]
theorem xl (p : ae) (hg : dI p) (out : List Int) (ht : G9 p.funcs out) : ∀ (m k : Nat) (o : List W32), k + m = out.length → o.length = p.funcs.length → (∀ f : Nat, (f : Int) ∈ out.take k → ∀ b, (List.getD o f 0#32).getLsbD b = true ↔ May p.funcs ofB f b) → (∀ f : Nat, (f : Int) ∉ out.take k → List.getD o f 0#32 = 0#32) →
  ∃ o', ff o out p.globals p.locks p.slots p.funcs (out.length : Int) (k : Int) = some o' ∧ o'.length = p.funcs.length ∧ ∀ f : Nat, (f : Int) ∈ out → ∀ b, (List.getD o' f 0#32).getLsbD b = true ↔ May p.funcs ofB f b
 | 0, k, o, h, ho, h1, h2 => by
  rw [ff, iN (by omega)]
  rw [List.take_of_length_le (by omega)] at h1
  exact ⟨o, rfl, ho, h1⟩
 | m + 1, k, o, h, ho, h1, h2 => by
  have hn := hg.funcs.2
  have hol : out.length ≤ p.funcs.length := vj _ _ ht.nd ht.rng
  have hlt : k < out.length := by omega
  have hgk : List.getD out k 0 = out[k] := by simp [List.getD, hlt]
  have hr := ht.rng _ (List.getElem_mem hlt)
  obtain ⟨f, hf⟩ : ∃ f : Nat, out[k] = (f : Int) := ⟨out[k].toNat, by omega⟩
  rw [hf] at hr
  have hgk' := hgk.trans hf
  rw [ff, iP (by omega), iP (by omega), iP (by omega), Int.toNat_natCast k, hgk', iP (by omega), iP (by omega), Int.toNat_natCast f, inc k (by omega)]
  obtain ⟨o1, q1, q2, q3, q4⟩ := xk p hg f (by omega) out (out.length : Int) (k : Int) (List.getD p.funcs f []).length 0 o (by omega) ho
  rw [show ((0 : Nat) : Int) = 0 from rfl] at q1
  rw [bind_some q1]
  have htk : out.take (k + 1) = out.take k ++ [(f : Int)] := by rw [← List.take_append_getElem hlt, hf]
  have hnew : (f : Int) ∉ out.take k := fun hin => by
   obtain ⟨i, i1, i2, i3⟩ := lA hin
   have e1 : out[i] = out[k] := by
    rw [hf, ← i3]; simp [List.getD, i2]
   have := (List.getElem_inj ht.nd).1 e1
   omega
  refine xl p hg out ht m (k + 1) o1 (by omega) q2 (fun g hgm b => ?_) fun g hgm => ?_
  ·rw [htk, List.mem_append, List.mem_singleton] at hgm
   by_cases hgf : g = f
   ·subst hgf
    rw [q4, h2 g hnew]
    simp only [BitVec.getLsbD_zero, Bool.false_eq_true, false_or]
    constructor
    ·rintro ⟨j, _, j2, ⟨j3, j4⟩ | j3⟩
     ·have hc := hg.calls g j (by omega) j2 j3
      obtain ⟨c, hcc⟩ : ∃ c : Nat, (List.getD (List.getD p.funcs g []) j aa).arg = (c : Int) := ⟨_, (Int.toNat_of_nonneg hc.1).symm⟩
      rw [hcc, Int.toNat_natCast] at j4
      have e : Edge p.funcs g c := ⟨j, j2, j3, hcc⟩
      have hct := ht.top k hlt c (by rw [hgk', Int.toNat_natCast]; exact e)
      obtain ⟨x, hx1, hx2⟩ := (h1 c hct b).1 j4
      exact ⟨x, .step _ _ _ e hx1, hx2⟩
     ·exact ⟨g, .refl _, j, j2, j3⟩
    ·rintro ⟨x, hx1, hx2⟩
     cases hx1 with
     | refl _ => obtain ⟨j, j1, j2⟩ := hx2; exact ⟨j, Nat.zero_le _, j1, .inr j2⟩
     | step _ c _ e hp =>
      obtain ⟨j, j1, j2, j3⟩ := e
      have hct := ht.top k hlt c (by rw [hgk', Int.toNat_natCast]; exact ⟨j, j1, j2, j3⟩)
      refine ⟨j, Nat.zero_le _, j1, .inl ⟨j2, ?_⟩⟩
      rw [j3, Int.toNat_natCast]
      exact (h1 c hct b).2 ⟨x, hp, hx2⟩
   ·rw [q3 g hgf]
    exact h1 g (hgm.resolve_right (by omega)) b
  ·rw [htk, List.mem_append, List.mem_singleton, not_or] at hgm
   rw [q3 g (by omega)]
   exact h2 g hgm.1
theorem CS (p : ae) (hg : dI p) (hk : bM p = some (0, 0, 0)) : ∃ o, kS p = some (0, o) ∧ o.length = p.funcs.length ∧ ∀ f, f < p.funcs.length → ∀ b, (List.getD o f 0#32).getLsbD b = true ↔ May p.funcs ofB f b := by
 have hn := hg.funcs.2
 obtain ⟨out, q1, q2⟩ := rO p hg hk
 unfold kS
 rw [bind_some q1, if_neg (show ¬ ((0 : Int) != 0) = true by decide), iP (by omega), if_pos (decide_eq_true (by simp only [az]; omega)), Int.toNat_natCast]
 obtain ⟨o, g1, g2, g3⟩ := xl p hg out q2 out.length 0 (List.replicate p.funcs.length 0#32) (by omega) (by simp) (fun f hf => by simp at hf) (fun f _ => by
  simp only [List.getD, List.getElem?_replicate]
  split <;> rfl)
 rw [show ((0 : Nat) : Int) = 0 from rfl] at g1
 rw [bind_some g1]
 exact ⟨o, rfl, g2, fun f hf => g3 f (q2.all f hf)⟩
theorem ul (o : List W32) (ho : o.length ≤ 32) : ∀ (m f : Nat) (x : W32), f + m = o.length → ∃ x', eC o x (o.length : Int) (f : Int) = some x' ∧ ∀ b, x'.getLsbD b = true ↔ x.getLsbD b = true ∨ (f ≤ b ∧ b < o.length ∧ List.getD o b 0#32 ≠ 0#32)
 | 0, f, x, h => by
  rw [eC, iN (by omega)]
  exact ⟨x, rfl, fun b => ⟨.inl, fun h => h.elim (fun x => x) fun ⟨h1, h2, _⟩ => by omega⟩⟩
 | m + 1, f, x, h => by
  rw [eC, iP (by omega), iP (by omega), iP (by omega), Int.toNat_natCast, inc f (by omega)]
  have hlt : (0#32 < List.getD o f 0#32) ↔ List.getD o f 0#32 ≠ 0#32 := by
   rw [BitVec.lt_def]
   constructor
   ·intro h1 e; rw [e] at h1; exact absurd h1 (by decide)
   ·intro h1
    have : (List.getD o f 0#32).toNat ≠ 0 := fun e => h1 (BitVec.eq_of_toNat_eq (by simpa using e))
    show (0#32).toNat < _
    rw [show (0#32).toNat = 0 from rfl]
    omega
  by_cases h0 : List.getD o f 0#32 ≠ 0#32
  ·rw [if_pos (decide_eq_true (hlt.2 h0)), bind_some (nv _)]
   obtain ⟨x', q1, q2⟩ := ul o ho m (f + 1) (x ||| one (f : Int)) (by omega)
   refine ⟨x', q1, fun b => ?_⟩
   rw [q2, BitVec.getLsbD_or, Bool.or_eq_true, ik]
   constructor
   ·rintro ((h1 | ⟨h1, _⟩) | ⟨h1, h2, h3⟩)
    ·exact .inl h1
    ·have : b = f := by omega
     subst this
     exact .inr ⟨Nat.le_refl _, by omega, h0⟩
    ·exact .inr ⟨by omega, h2, h3⟩
   ·rintro (h1 | ⟨h1, h2, h3⟩)
    ·exact .inl (.inl h1)
    ·rcases Nat.eq_or_lt_of_le h1 with rfl | h4
     ·exact .inl (.inr ⟨rfl, by omega⟩)
     ·exact .inr ⟨h4, h2, h3⟩
  ·rw [if_neg (fun h1 => h0 (hlt.1 (of_decide_eq_true h1)))]
   obtain ⟨x', q1, q2⟩ := ul o ho m (f + 1) x (by omega)
   refine ⟨x', q1, fun b => ?_⟩
   rw [q2]
   constructor
   ·rintro (h1 | ⟨h1, h2, h3⟩)
    ·exact .inl h1
    ·exact .inr ⟨by omega, h2, h3⟩
   ·rintro (h1 | ⟨h1, h2, h3⟩)
    ·exact .inl h1
    ·rcases Nat.eq_or_lt_of_le h1 with rfl | h4
     ·exact absurd h3 h0
     ·exact .inr ⟨h4, h2, h3⟩
def nz (fs : FS) (f : Nat) : Prop := ∃ g, ja fs f g ∧ ∃ j, j < (List.getD fs g []).length ∧ (List.getD (List.getD fs g []) j aa).kind = 5
theorem IV {fs : FS} {f b : Nat} (h : May fs ofB f b) : nz fs f := by
 obtain ⟨g, h1, j, h2, h3⟩ := h
 refine ⟨g, h1, j, h2, ?_⟩
 unfold ofB at h3
 split at h3
 ·assumption
 ·simp at h3
theorem HW {fs : FS} {f : Nat} (h : nz fs f) : May fs ofB f 0 := by
 obtain ⟨g, h1, j, h2, h3⟩ := h
 refine ⟨g, h1, j, h2, ?_⟩
 unfold ofB
 rw [if_pos h3]
 decide
theorem E6 (p : ae) (hg : dI p) (hk : bM p = some (0, 0, 0)) : ∃ x, kT p = some (x, 0) ∧ ∀ b, x.getLsbD b = true ↔ b < p.funcs.length ∧ nz p.funcs b := by
 have hn := hg.funcs.2
 obtain ⟨o, q1, q2, q3⟩ := CS p hg hk
 obtain ⟨x, g1, g2⟩ := ul o (by omega) o.length 0 0#32 (by omega)
 rw [show ((0 : Nat) : Int) = 0 from rfl] at g1
 unfold kT
 rw [bind_some q1, if_neg (show ¬ ((0 : Int) != 0) = true by decide), bind_some g1]
 refine ⟨x, rfl, fun b => ?_⟩
 rw [g2]
 constructor
 ·rintro (h1 | ⟨_, h2, h3⟩)
  ·simp at h1
  ·obtain ⟨c, hc⟩ := vg.1 h3
   exact ⟨by omega, IV ((q3 b (by omega) c).1 hc)⟩
 ·rintro ⟨h1, h2⟩
  exact .inr ⟨Nat.zero_le _, by omega, vg.2 ⟨0, (q3 b h1 0).2 (HW h2)⟩⟩
def FN (fs : FS) (f : Nat) : Prop := ∃ g, g < fs.length ∧ ∃ j, j < (List.getD fs g []).length ∧ (List.getD (List.getD fs g []) j aa).kind = 5 ∧ (List.getD (List.getD fs g []) j aa).arg = (f : Int)
theorem Bw (fs : FS) (hn : fs.length ≤ 65536) (hlen : ∀ f, (List.getD fs f []).length ≤ 65536) : ∀ (m i : Nat) (x : W32), i + m = fs.length → ∃ x', fk x fs (fs.length : Int) (i : Int) = some x' ∧ ∀ b, x'.getLsbD b = true ↔ x.getLsbD b = true ∨ (b < 32 ∧ ∃ g, i ≤ g ∧ g < fs.length ∧ ∃ j, j < (List.getD fs g []).length ∧ (List.getD (List.getD fs g []) j aa).kind = 5 ∧ (List.getD (List.getD fs g []) j aa).arg = (b : Int))
 | 0, i, x, h => by
  rw [fk, iN (by omega)]
  exact ⟨x, rfl, fun b => ⟨.inl, fun h => h.elim (fun x => x) fun ⟨_, g, h1, h2, _⟩ => by omega⟩⟩
 | m + 1, i, x, h => by
  obtain ⟨y, q1, q2⟩ := Bo (List.getD fs i []) 5 (hlen i)
  rw [fk, iP (by omega), iP (by omega), iP (by omega), Int.toNat_natCast, bind_some q1, inc i (by omega)]
  obtain ⟨x', g1, g2⟩ := Bw fs hn hlen m (i + 1) (x ||| y) (by omega)
  refine ⟨x', g1, fun b => ?_⟩
  rw [g2, BitVec.getLsbD_or, Bool.or_eq_true, q2]
  constructor
  ·rintro ((h1 | ⟨h1, h2⟩) | ⟨h1, g, h2, h3⟩)
   ·exact .inl h1
   ·exact .inr ⟨h1, i, Nat.le_refl _, by omega, h2⟩
   ·exact .inr ⟨h1, g, by omega, h3⟩
  ·rintro (h1 | ⟨h1, g, h2, h3, h4⟩)
   ·exact .inl (.inl h1)
   ·rcases Nat.eq_or_lt_of_le h2 with rfl | h5
    ·exact .inl (.inr ⟨h1, h4⟩)
    ·exact .inr ⟨h1, g, h5, h3, h4⟩
theorem FO (p : ae) (hg : dI p) : ∃ x, lc p = some x ∧ ∀ b, b < 32 → (x.getLsbD b = true ↔ FN p.funcs b) := by
 have hn := hg.funcs.2
 obtain ⟨x, q1, q2⟩ := Bw p.funcs (by omega) (fun f => by have := hg.le f; omega) p.funcs.length 0 0#32 (by omega)
 rw [show ((0 : Nat) : Int) = 0 from rfl] at q1
 unfold lc
 rw [bind_some q1]
 refine ⟨x, rfl, fun b hb => ?_⟩
 rw [q2]
 constructor
 ·rintro (h1 | ⟨_, g, _, h2, h3⟩)
  ·simp at h1
  ·exact ⟨g, h2, h3⟩
 ·rintro ⟨g, h2, h3⟩
  exact .inr ⟨hb, g, Nat.zero_le _, h2, h3⟩
theorem vr (t : List Int) (ht : t.length ≤ 65536) (x1 x2 x3 : Int) (x4 : FS) (f : Nat) (x6 : Int) : ∀ (m i : Nat), i + m = t.length → cP t x1 x2 x3 x4 (f : Int) x6 (i : Int) = some (if (f : Int) ∈ t.drop i then .x0 true else .x1)
 | 0, i, h => by
  rw [cP, iN (by omega), List.drop_eq_nil_of_le (by omega)]
  rfl
 | m + 1, i, h => by
  have hlt : i < t.length := by omega
  have hd : t.drop i = t[i] :: t.drop (i + 1) := List.drop_eq_getElem_cons hlt
  have hg : List.getD t i 0 = t[i] := by simp [List.getD, hlt]
  rw [cP, iP (by omega), iP (by omega), iP (by omega), Int.toNat_natCast, hg, hd, inc i (by omega), vr t ht x1 x2 x3 x4 f x6 m (i + 1) (by omega)]
  by_cases h1 : t[i] = (f : Int)
  ·rw [if_pos (eqT h1), if_pos (by rw [h1]; simp)]
  ·rw [if_neg (eqF h1)]
   have : ((f : Int) ∈ t[i] :: t.drop (i + 1)) ↔ (f : Int) ∈ t.drop (i + 1) := by
    rw [List.mem_cons]
    exact ⟨fun h => h.resolve_left fun e => h1 e.symm, .inr⟩
   simp only [this]
theorem vt (p : ae) (hg : dI p) (f : Nat) (hf : f < 32) : ∀ (m i : Nat), i + m = p.funcs.length → ∃ b, cQ p.globals p.locks p.slots p.funcs (f : Int) (i : Int) = some (if b = true then .x0 true else .x1) ∧ (b = true ↔ ∃ g, i ≤ g ∧ g < p.funcs.length ∧ ∃ j, j < (List.getD p.funcs g []).length ∧ (List.getD (List.getD p.funcs g []) j aa).kind = 5 ∧ (List.getD (List.getD p.funcs g []) j aa).arg = (f : Int))
 | 0, i, h => by
  rw [cQ, iN (by omega)]
  exact ⟨false, rfl, ⟨(fun h => by cases h), fun ⟨g, h1, h2, _⟩ => by omega⟩⟩
 | m + 1, i, h => by
  have hn := hg.funcs.2
  have hle := hg.le i
  obtain ⟨t, q1, q2, q3⟩ := pg (List.getD p.funcs i []) (by omega) 5
  have h6 := vr t (by have := q2.length_le (by omega); omega) p.globals p.locks p.slots p.funcs f (i : Int) t.length 0 (by omega)
  rw [show ((0 : Nat) : Int) = 0 from rfl, List.drop_zero] at h6
  rw [cQ, iP (by omega), iP (by omega), iP (by omega), Int.toNat_natCast, bind_some q1, bind_some h6, inc i (by omega)]
  by_cases h1 : (f : Int) ∈ t
  ·rw [if_pos h1]
   exact ⟨true, rfl, ⟨fun _ => ⟨i, Nat.le_refl _, by omega, ((q3 f).1 h1).2⟩, fun _ => rfl⟩⟩
  ·rw [if_neg h1]
   obtain ⟨b, g1, g2⟩ := vt p hg f hf m (i + 1) (by omega)
   refine ⟨b, g1, ?_⟩
   rw [g2]
   constructor
   ·rintro ⟨g, h2, h3⟩; exact ⟨g, by omega, h3⟩
   ·rintro ⟨g, h2, h3, h4⟩
    rcases Nat.eq_or_lt_of_le h2 with rfl | h5
    ·exact absurd ((q3 f).2 ⟨hf, h4⟩) h1
    ·exact ⟨g, h5, h3, h4⟩
theorem Bx (p : ae) (hg : dI p) (f : Nat) (hf : f < 32) : ∃ b, fS p (f : Int) = some b ∧ (b = true ↔ FN p.funcs f) := by
 obtain ⟨b, q1, q2⟩ := vt p hg f hf p.funcs.length 0 (by omega)
 rw [show ((0 : Nat) : Int) = 0 from rfl] at q1
 unfold fS
 rw [bind_some q1]
 refine ⟨b, by cases b <;> rfl, ?_⟩
 rw [q2]
 exact ⟨fun ⟨g, _, h2, h3⟩ => ⟨g, h2, h3⟩, fun ⟨g, h2, h3⟩ => ⟨g, Nat.zero_le _, h2, h3⟩⟩
abbrev nde (p : ae) (f i : Nat) : ab := List.getD (List.getD p.funcs f []) i aa
abbrev sec (l : List ac) (f : Nat) : ac := List.getD l f ad
abbrev hld (l : List ac) (f i : Nat) : W32 := List.getD (sec l f).held i 0#32
def Shp (p : ae) (l : List ac) : Prop := l.length = p.funcs.length ∧ ∀ f, f < p.funcs.length → (sec l f).held.length = (List.getD p.funcs f []).length ∧ (sec l f).live.length = (List.getD p.funcs f []).length
theorem neT {a b : Int} (h : a ≠ b) : ((a : Int) != b) = true := by simpa using h
theorem neF {a b : Int} (h : a = b) : ¬ ((a : Int) != b) = true := by simpa using h
abbrev liv (l : List ac) (f i : Nat) : W32 := List.getD (sec l f).live i 0#32
def Ha (m : W32) (id : Int) : Bool := if 0 ≤ id ∧ id < 32 then m.getLsbD id.toNat else false
theorem FP (m : W32) {k : Nat} (hk : k < 32) : Ha m (k : Int) = m.getLsbD k := by
 unfold Ha
 rw [if_pos (by omega), Int.toNat_natCast]
def Low (x : W32) (k : Nat) : Prop := k < 32 ∧ x.getLsbD k = true ∧ ∀ j, j < k → ¬ x.getLsbD j = true
theorem xm (x : W32) : ∀ (m i : Nat), (∀ j, j < i → ¬ x.getLsbD j = true) → i + m = 32 → (∃ k, Low x k) ∨ ∀ j, j < 32 → ¬ x.getLsbD j = true
 | 0, i, h, e => .inr fun j hj => h j (by omega)
 | m + 1, i, h, e => by
  by_cases c : x.getLsbD i = true
  ·exact .inl ⟨i, by omega, c, h⟩
  ·exact xm x m (i + 1) (fun j hj => by
    rcases Nat.lt_or_ge j i with h1 | h1
    ·exact h j h1
    ·rw [show j = i by omega]; exact c) (by omega)
theorem CT {x : W32} (h : x ≠ 0#32) : ∃ k, Low x k := by
 rcases xm x 32 0 (fun j hj => by omega) rfl with h1 | h1
 ·exact h1
 ·refine absurd (BitVec.eq_of_getLsbD_eq fun i hi => ?_) h
  have h2 := h1 i hi
  rw [Bool.not_eq_true] at h2
  rw [h2]
  simp
theorem zF {x : W32} {k : Nat} (h : Low x k) (i : Nat) : (∃ j, j < i ∧ x.getLsbD j = true) ↔ k < i := by
 constructor
 ·rintro ⟨j, h1, h2⟩
  rcases Nat.lt_or_ge k i with h3 | h3
  ·exact h3
  ·exact absurd h2 (h.2.2 j (by omega))
 ·exact fun h1 => ⟨k, h1, h.2.1⟩
theorem Hb {x : W32} {k : Nat} (h : Low x k) : x &&& (-x) = BitVec.twoPow 32 k := by
 refine BitVec.eq_of_getLsbD_eq fun i hi => ?_
 rw [BitVec.getLsbD_and, BitVec.getLsbD_neg, BitVec.getLsbD_twoPow]
 have h1 := zF h i
 by_cases c : k < i
 ·have : decide (∃ j, j < i ∧ x.getLsbD j = true) = true := decide_eq_true (h1.2 c)
  rw [this]
  have : decide (k = i) = false := decide_eq_false (by omega)
  rw [this]
  cases x.getLsbD i <;> simp [hi]
 ·have : decide (∃ j, j < i ∧ x.getLsbD j = true) = false := decide_eq_false fun hh => c (h1.1 hh)
  rw [this]
  by_cases e : k = i
  ·subst e
   rw [h.2.1]
   simp [h.1]
  ·have h2 : x.getLsbD i = false := by
    rw [← Bool.not_eq_true]
    exact h.2.2 i (by omega)
   rw [h2]
   simp [e]
end Go.Bm.GoYtipjbmnfnmlkfaaDoor
