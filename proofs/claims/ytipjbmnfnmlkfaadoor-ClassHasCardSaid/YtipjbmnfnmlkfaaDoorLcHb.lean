import Derived.Test.YtipjbmnfnmlkfaaDoorLcHa
namespace Go.Bm.GoYtipjbmnfnmlkfaaDoor
set_option autoImplicit false
set_option linter.unusedVariables false
set_option linter.unusedSimpArgs false
set_option maxRecDepth 100000
theorem Dg (l : List aa) (hl : l.length ≤ 65536) (x0 : List Bool) (x2 x3 x4 : Int) (x5 : FS) (x6 x7 : W32) : ∀ (m i : Nat) (x1 : List Int), i + m = l.length → x1.length ≤ i → dw x0 x1 x2 x3 x4 x5 x6 x7 l (l.length : Int) (i : Int) = some (x1 ++ spn l i m)
 | 0, i, x1, h, hx => by
  rw [dw, iN (by omega), spn, List.append_nil]
 | m + 1, i, x1, h, hx => by
  rw [dw, iP (by omega), iP (by omega), iP (by omega), Int.toNat_natCast, inc i (by omega), spn]
  by_cases k : (List.getD l i ab).kind = 5
  ·rw [if_pos (eqT k), if_pos (Nat.ble_eq_true_of_le (by simp only [List.length_singleton, aF]; omega)), if_pos k, Dg l hl x0 x2 x3 x4 x5 x6 x7 m (i + 1) _ (by omega) (by simp; omega), List.append_assoc]
  ·rw [if_neg (eqF k), if_neg k, Dg l hl x0 x2 x3 x4 x5 x6 x7 m (i + 1) _ (by omega) (by omega)]
   rfl
def Cll (l : List aa) (beh : List Bool) (w : Bool) (i : Nat) (y : Int) : Prop := ∃ j, i ≤ j ∧ j < l.length ∧ (List.getD l j ab).kind = 7 ∧ List.getD beh j false = w ∧ (List.getD l j ab).arg = y
theorem kH {l : List aa} {beh : List Bool} {w : Bool} {i : Nat} {y : Int} (hi : i < l.length) : Cll l beh w i y ↔ ((List.getD l i ab).kind = 7 ∧ List.getD beh i false = w ∧ (List.getD l i ab).arg = y) ∨ Cll l beh w (i + 1) y := by
 constructor
 ·rintro ⟨j, h1, h2, h3⟩
  rcases Nat.eq_or_lt_of_le h1 with rfl | h4
  ·exact .inl h3
  ·exact .inr ⟨j, h4, h2, h3⟩
 ·rintro (h | ⟨j, h1, h2⟩)
  ·exact ⟨i, Nat.le_refl _, hi, h⟩
  ·exact ⟨j, by omega, h2⟩
theorem Bh {l : List aa} {beh : List Bool} {w : Bool} {i : Nat} {y : Int} (hi : l.length ≤ i) : ¬ Cll l beh w i y := fun ⟨j, h1, h2, _⟩ => by omega
theorem xN (l : List aa) (hl : l.length ≤ 65536) (beh : List Bool) (hb : beh.length = l.length) (x0 : List Bool) (x2 x3 x4 : Int) (x5 : FS) (x6 x7 x8 x9 : W32) : ∀ (m i : Nat) (e t : W32) (_ : W32), i + m = l.length → ∃ e' t', cv x0 beh x2 x3 x4 x5 x6 x7 x8 x9 e t l (l.length : Int) (i : Int) = some (e', t') ∧ (∀ b, e'.getLsbD b = true ↔ e.getLsbD b = true ∨ (b < 32 ∧ Cll l beh false i (b : Int))) ∧ ∀ b, t'.getLsbD b = true ↔ t.getLsbD b = true ∨ (b < 32 ∧ Cll l beh true i (b : Int))
 | 0, i, e, t, _, h => by
  rw [cv, iN (by omega)]
  exact ⟨e, t, rfl, fun b => ⟨.inl, fun h => h.elim id fun h2 => absurd h2.2 (Bh (by omega))⟩, fun b => ⟨.inl, fun h => h.elim id fun h2 => absurd h2.2 (Bh (by omega))⟩⟩
 | m + 1, i, e, t, z, h => by
  have hi : i < l.length := by omega
  rw [cv, iP (by omega), iP (by omega), iP (by omega), Int.toNat_natCast, inc i (by omega)]
  by_cases k : (List.getD l i ab).kind = 7
  ·rw [if_neg (show ¬ ((List.getD l i ab).kind != 7) = true by rw [bne_iff_ne]; exact fun hn => hn k), iP (by omega)]
   cases c : List.getD beh i false with
   | true =>
    rw [if_pos (show true = true from rfl), bind_some (fc _)]
    obtain ⟨e', t', q1, q2, q3⟩ := xN l hl beh hb x0 x2 x3 x4 x5 x6 x7 x8 x9 m (i + 1) e (t ||| one (List.getD l i ab).arg) z (by omega)
    refine ⟨e', t', q1, fun b => ?_, fun b => ?_⟩
    ·rw [q2, kH hi, c]
     exact ⟨fun h => h.imp id fun h => ⟨h.1, .inr h.2⟩, fun h => h.imp id fun h => ⟨h.1, h.2.elim (fun h => by cases h.2.1) id⟩⟩
    ·rw [q3, kH hi, c, BitVec.getLsbD_or, Bool.or_eq_true, jZ]
     constructor
     ·rintro ((h | h) | h)
      ·exact .inl h
      ·exact .inr ⟨h.2, .inl ⟨k, rfl, h.1⟩⟩
      ·exact .inr ⟨h.1, .inr h.2⟩
     ·rintro (h | ⟨h1, h2 | h2⟩)
      ·exact .inl (.inl h)
      ·exact .inl (.inr ⟨h2.2.2, h1⟩)
      ·exact .inr ⟨h1, h2⟩
   | false =>
    rw [if_neg (by decide), bind_some (fc _)]
    obtain ⟨e', t', q1, q2, q3⟩ := xN l hl beh hb x0 x2 x3 x4 x5 x6 x7 x8 x9 m (i + 1) (e ||| one (List.getD l i ab).arg) t z (by omega)
    refine ⟨e', t', q1, fun b => ?_, fun b => ?_⟩
    ·rw [q2, kH hi, c, BitVec.getLsbD_or, Bool.or_eq_true, jZ]
     constructor
     ·rintro ((h | h) | h)
      ·exact .inl h
      ·exact .inr ⟨h.2, .inl ⟨k, rfl, h.1⟩⟩
      ·exact .inr ⟨h.1, .inr h.2⟩
     ·rintro (h | ⟨h1, h2 | h2⟩)
      ·exact .inl (.inl h)
      ·exact .inl (.inr ⟨h2.2.2, h1⟩)
      ·exact .inr ⟨h1, h2⟩
    ·rw [q3, kH hi, c]
     exact ⟨fun h => h.imp id fun h => ⟨h.1, .inr h.2⟩, fun h => h.imp id fun h => ⟨h.1, h.2.elim (fun h => by cases h.2.1) id⟩⟩
  ·rw [if_pos (show ((List.getD l i ab).kind != 7) = true by rw [bne_iff_ne]; exact k)]
   obtain ⟨e', t', q1, q2, q3⟩ := xN l hl beh hb x0 x2 x3 x4 x5 x6 x7 x8 x9 m (i + 1) e t z (by omega)
   refine ⟨e', t', q1, fun b => ?_, fun b => ?_⟩
   ·rw [q2, kH hi]
    exact ⟨fun h => h.imp id fun h => ⟨h.1, .inr h.2⟩, fun h => h.imp id fun h => ⟨h.1, h.2.elim (fun h => absurd h.1 k) id⟩⟩
   ·rw [q3, kH hi]
    exact ⟨fun h => h.imp id fun h => ⟨h.1, .inr h.2⟩, fun h => h.imp id fun h => ⟨h.1, h.2.elim (fun h => absurd h.1 k) id⟩⟩
abbrev B8 := BitVec 8
def eC (n : Nat) : List B8 := if n < 128 then [BitVec.ofNat 8 n] else BitVec.ofNat 8 (128 + n % 128) :: eC (n / 128)
 termination_by n
 decreasing_by omega
theorem xO {n : Nat} (h : n < 128) : eC n = [BitVec.ofNat 8 n] := by rw [eC, if_pos h]
theorem Bi {n : Nat} (h : ¬ n < 128) : eC n = BitVec.ofNat 8 (128 + n % 128) :: eC (n / 128) := by rw [eC, if_neg h]
theorem zg : ∀ (k n : Nat), n < 128 ^ (k + 1) → (eC n).length ≤ k + 1
 | 0, n, h => by rw [xO (by simpa using h)]; simp
 | k + 1, n, h => by
  by_cases h1 : n < 128
  ·rw [xO h1]; simp
  ·rw [Bi h1, List.length_cons]
   have := zg k (n / 128) (Nat.div_lt_of_lt_mul (by rw [Nat.pow_succ, Nat.mul_comm] at h; exact h))
   omega
theorem bh {n : Nat} (h : n < 4294967296) : (eC n).length ≤ 5 := zg 4 n (Nat.lt_of_lt_of_le h (by decide))
theorem Gy (x : BitVec 32) : (BitVec.setWidth 8 x ||| 128#8) = BitVec.ofNat 8 (128 + x.toNat % 128) := by
 apply BitVec.eq_of_toNat_eq
 have key : ∀ m, m < 256 → m ||| 128 = (128 + m % 128) % 256 := by decide
 rw [BitVec.toNat_or, BitVec.toNat_setWidth, BitVec.toNat_ofNat]
 show x.toNat % 256 ||| 128 = (128 + x.toNat % 128) % 256
 rw [key _ (Nat.mod_lt _ (by decide)), Nat.mod_mod_of_dvd _ (by decide : 128 ∣ 256)]
theorem oH {a : Nat} (h : a ≤ 100000000000000) : Nat.ble (a * 1) aF = true := Nat.ble_eq_true_of_le (by unfold aF; omega)
theorem Dh : ∀ (k : Nat) (x0 : List B8) (x1 : BitVec 32), x1.toNat < 128 ^ (k + 1) → x0.length + k ≤ 1000000000 → ∃ z y, eg x0 x1 = some (x0 ++ z, y) ∧ z.length ≤ k ∧ z ++ [BitVec.setWidth 8 y] = eC x1.toNat
 | k, x0, x1, h, hl => by
  by_cases h1 : x1.toNat < 128
  ·refine ⟨[], x1, ?_, by simp, ?_⟩
   ·rw [eg, if_neg (by simp only [decide_eq_true_eq, BitVec.le_def]; show ¬ 128 ≤ x1.toNat; omega), List.append_nil]
   ·rw [xO h1]
    simp [← BitVec.ofNat_toNat]
  ·cases k with
   | zero => exact absurd (by simpa using h) h1
   | succ k =>
    have hs : (x1 >>> (BitVec.toNat (7#64))).toNat = x1.toNat / 128 := by
     rw [BitVec.toNat_ushiftRight, Nat.shiftRight_eq_div_pow]; rfl
    obtain ⟨z, y, q1, q2, q3⟩ := Dh k (x0 ++ [(BitVec.setWidth 8 x1) ||| (128#8)]) (x1 >>> (BitVec.toNat (7#64))) (by
     rw [hs]; exact Nat.div_lt_of_lt_mul (by rw [Nat.pow_succ, Nat.mul_comm] at h; exact h)) (by rw [List.length_append]; simp; omega)
    refine ⟨((BitVec.setWidth 8 x1) ||| (128#8)) :: z, y, ?_, by rw [List.length_cons]; omega, ?_⟩
    ·rw [eg, if_pos (by simp only [decide_eq_true_eq, BitVec.le_def]; show 128 ≤ x1.toNat; omega), if_pos (oH (by simp; omega)), q1, List.append_assoc]
     rfl
    ·rw [Bi h1, List.cons_append, q3, hs, Gy]
theorem FT (n : BitVec 32) : ls n = some (eC n.toNat) := by
 obtain ⟨z, y, q1, q2, q3⟩ := Dh 4 [] n (Nat.lt_of_lt_of_le n.isLt (by decide)) (by simp)
 unfold ls
 rw [bind_some q1]
 simp only [List.nil_append]
 rw [if_pos (oH (by simp; omega)), q3]
theorem jq (l : List B8) (n : Int) (h0 : 0 ≤ n) (h : n < 4294967296) (hl : l.length ≤ 1000000000) : aT l n = some (l ++ eC n.toNat) := by
 have e : (BitVec.ofInt 32 n).toNat = n.toNat := by rw [BitVec.toNat_ofInt]; simp; omega
 unfold aT
 rw [bind_some (FT _), e, if_pos (oH (by have := bh (n := n.toNat) (by omega); omega))]
def zh (x : aa) : List B8 := eC x.kind.toNat ++ (if x.kind = 9 then [] else if x.kind = 0 then eC x.next.toNat else if x.kind = 5 then eC x.arg.toNat ++ (eC x.next.toNat ++ eC x.alt.toNat) else if x.kind = 8 then eC x.next.toNat ++ eC x.alt.toNat else eC x.arg.toNat ++ eC x.next.toNat)
def lf (l : List aa) : Nat → Nat → List B8
 | _, 0 => []
 | i, m + 1 => zh (List.getD l i ab) ++ lf l (i + 1) m
def lg (fs : FS) : Nat → Nat → List B8
 | _, 0 => []
 | f, m + 1 => eC (List.getD fs f []).length ++ lf (List.getD fs f []) 0 (List.getD fs f []).length ++ lg fs (f + 1) m
def gc (p : ac) : List B8 := [97#8, 108#8, 112#8, 49#8] ++ (eC p.globals.toNat ++ (eC p.locks.toNat ++ (eC p.slots.toNat ++ (eC p.funcs.length ++ lg p.funcs 0 p.funcs.length))))
def Sm (x : aa) : Prop := (0 ≤ x.kind ∧ x.kind ≤ 9) ∧ (x.kind ≠ 9 → 0 ≤ x.next ∧ x.next < 65536) ∧ (x.kind ≠ 9 → x.kind ≠ 0 → x.kind ≠ 8 → 0 ≤ x.arg ∧ x.arg < 65536) ∧ (x.kind = 5 ∨ x.kind = 8 → 0 ≤ x.alt ∧ x.alt < 65536)
theorem Di {p : ac} (hg : bw p) {f i : Nat} (hf : f < p.funcs.length) (hi : i < (List.getD p.funcs f []).length) : Sm (List.getD (List.getD p.funcs f []) i ab) := by
 have h := hg.node f i hf hi
 have h1 := hg.globals
 have h2 := hg.locks
 have h3 := hg.slots
 have h4 := hg.funcs
 have h5 := hg.le f
 generalize List.getD (List.getD p.funcs f []) i ab = x at h
 have k := h.kind
 refine ⟨k, fun h9 => ?_, fun h9 h0 h8 => ?_, fun hh => ?_⟩
 ·have := h.next h9; omega
 ·have a1 := h.glob; have a2 := h.lock; have a3 := h.spawn; have a4 := h.join; have a5 := h.call
  omega
 ·have a3 := h.spawn; have a6 := h.alt
  omega
theorem wS {x : aa} (h : Sm x) : (zh x).length ≤ 20 := by
 obtain ⟨h1, h2, h3, h4⟩ := h
 have q0 := bh (n := x.kind.toNat) (by omega)
 unfold zh
 rw [List.length_append]
 split
 ·simp; omega
 ·rename_i k9
  have q1 := bh (n := x.next.toNat) (by have := h2 k9; omega)
  split
  ·omega
  ·rename_i k0
   split
   ·have q2 := bh (n := x.arg.toNat) (by have := h3 k9 k0 (by omega); omega)
    have q3 := bh (n := x.alt.toNat) (by have := h4 (.inl ‹_›); omega)
    simp only [List.length_append]; omega
   ·split
    ·have q3 := bh (n := x.alt.toNat) (by have := h4 (.inr ‹_›); omega)
     simp only [List.length_append]; omega
    ·have q2 := bh (n := x.arg.toNat) (by have := h3 k9 k0 ‹_›; omega)
     simp only [List.length_append]; omega
theorem oI {l : List aa} (h : ∀ i, i < l.length → Sm (List.getD l i ab)) : ∀ (m i : Nat), i + m ≤ l.length → (lf l i m).length ≤ 20 * m
 | 0, i, hi => by simp [lf]
 | m + 1, i, hi => by
  have h1 := wS (h i (by omega))
  have h2 := oI h m (i + 1) (by omega)
  simp only [lf, List.length_append]; omega
theorem wT (x1 : FS) (x2 x3 : Int) (l : List aa) (hle : l.length ≤ 65536) (h : ∀ i, i < l.length → Sm (List.getD l i ab)) : ∀ (m i : Nat) (b : List B8), i + m = l.length → b.length + 20 * m ≤ 1000000000 → bm b x1 x2 x3 l (l.length : Int) (i : Int) = some (b ++ lf l i m)
 | 0, i, b, hi, hb => by
  rw [bm, iN (by omega), lf, List.append_nil]
 | m + 1, i, b, hi, hb => by
  rw [bm, iP (by omega), iP (by omega), iP (by omega), Int.toNat_natCast i, inc i (by omega)]
  have hx := h i (by omega)
  have hl := wS hx
  have hw := wT x1 x2 x3 l hle h m (i + 1) (b ++ zh (List.getD l i ab)) (by omega) (by rw [List.length_append]; omega)
  rw [lf, ← List.append_assoc, ← hw]
  generalize List.getD l i ab = x at hx hl
  obtain ⟨h1, h2, h3, h4⟩ := hx
  have q0 := bh (n := x.kind.toNat) (by omega)
  rw [bind_some (jq b x.kind (by omega) (by omega) (by omega))]
  unfold mw zh
  by_cases k9 : x.kind = 9
  ·rw [if_pos (eqT k9), if_pos k9, List.append_nil]
   rfl
  rw [if_neg (eqF k9), if_neg k9]
  have n2 := h2 k9
  have q1 := bh (n := x.next.toNat) (by omega)
  by_cases k0 : x.kind = 0
  ·rw [if_pos (eqT k0), if_pos k0]
   simp only [bind, Option.bind_some, gu, gt]
   rw [jq _ x.next (by omega) (by omega) (by rw [List.length_append]; omega)]
   simp only [Option.bind_some, List.append_assoc]
  rw [if_neg (eqF k0), if_neg k0]
  by_cases k5 : x.kind = 5
  ·have n3 := h3 k9 k0 (by omega)
   have n4 := h4 (.inl k5)
   have q2 := bh (n := x.arg.toNat) (by omega)
   rw [if_pos (eqT k5), if_pos k5]
   simp only [bind, Option.bind_some, gy, gx, gw, gv]
   rw [jq _ x.arg (by omega) (by omega) (by rw [List.length_append]; omega)]
   simp only [Option.bind_some]
   rw [jq _ x.next (by omega) (by omega) (by simp only [List.length_append]; omega)]
   simp only [Option.bind_some]
   rw [jq _ x.alt (by omega) (by omega) (by simp only [List.length_append]; omega)]
   simp only [Option.bind_some, List.append_assoc]
  rw [if_neg (eqF k5), if_neg k5]
  by_cases k8 : x.kind = 8
  ·have n4 := h4 (.inr k8)
   rw [if_pos (eqT k8), if_pos k8]
   simp only [bind, Option.bind_some, gB, gA, gz]
   rw [jq _ x.next (by omega) (by omega) (by simp only [List.length_append]; omega)]
   simp only [Option.bind_some]
   rw [jq _ x.alt (by omega) (by omega) (by simp only [List.length_append]; omega)]
   simp only [Option.bind_some, List.append_assoc]
  ·have n3 := h3 k9 k0 k8
   have q2 := bh (n := x.arg.toNat) (by omega)
   rw [if_neg (eqF k8), if_neg k8]
   simp only [bind, Option.bind_some, f5, f4, f3]
   rw [jq _ x.arg (by omega) (by omega) (by simp only [List.length_append]; omega)]
   simp only [Option.bind_some]
   rw [jq _ x.next (by omega) (by omega) (by simp only [List.length_append]; omega)]
   simp only [Option.bind_some, List.append_assoc]
theorem uh {p : ac} (hg : bw p) : ∀ (m f : Nat), f + m ≤ p.funcs.length → (lg p.funcs f m).length ≤ 1285 * m
 | 0, f, hi => by simp [lg]
 | m + 1, f, hi => by
  have hle := hg.le f
  have h1 := oI (fun i hi' => Di hg (f := f) (by omega) hi') (List.getD p.funcs f []).length 0 (by omega)
  have h2 := uh hg m (f + 1) (by omega)
  have h3 := bh (n := (List.getD p.funcs f []).length) (by omega)
  simp only [lg, List.length_append]; omega
theorem wU {p : ac} (hg : bw p) : ∀ (m f : Nat) (b : List B8), f + m = p.funcs.length → b.length + 1285 * m ≤ 100000000 → di b p.funcs (p.funcs.length : Int) (f : Int) = some (b ++ lg p.funcs f m)
 | 0, f, b, hi, hb => by
  rw [di, iN (by omega), lg, List.append_nil]
 | m + 1, f, b, hi, hb => by
  have hn := hg.funcs
  have hle := hg.le f
  have h3 := bh (n := (List.getD p.funcs f []).length) (by omega)
  have h1 := oI (fun i hi' => Di hg (f := f) (by omega) hi') (List.getD p.funcs f []).length 0 (by omega)
  have hw := wU hg m (f + 1) (b ++ (eC (List.getD p.funcs f []).length ++ lf (List.getD p.funcs f []) 0 (List.getD p.funcs f []).length)) (by omega) (by simp only [List.length_append]; omega)
  rw [di, iP (by omega), iP (by omega), iP (by omega), Int.toNat_natCast f, inc f (by omega), bind_some (jq b _ (by omega) (by omega) (by omega)), Int.toNat_natCast]
  have h16 := wT p.funcs (p.funcs.length : Int) (f : Int) (List.getD p.funcs f []) (by omega) (fun i hi' => Di hg (f := f) (by omega) hi') (List.getD p.funcs f []).length 0 (b ++ eC (List.getD p.funcs f []).length) (by omega) (by rw [List.length_append]; omega)
  rw [show ((0 : Nat) : Int) = 0 from rfl] at h16
  rw [bind_some h16, List.append_assoc, hw, lg]
  simp only [List.append_assoc]
theorem wV {p : ac} (hg : bw p) : (gc p).length ≤ 30000 := by
 have h1 := hg.globals; have h2 := hg.locks; have h3 := hg.slots; have h4 := hg.funcs
 have h := uh hg p.funcs.length 0 (by omega)
 have q1 := bh (n := p.globals.toNat) (by omega)
 have q2 := bh (n := p.locks.toNat) (by omega)
 have q3 := bh (n := p.slots.toNat) (by omega)
 have q4 := bh (n := p.funcs.length) (by omega)
 unfold gc
 simp only [List.length_append, List.length_cons, List.length_nil]
 omega
def zi (l : List Int) : Nat → Nat → List B8
 | _, 0 => []
 | i, m + 1 => eC (List.getD l i 0).toNat ++ zi l (i + 1) m
theorem zj (p : ac) (l : List Int) (hle : l.length ≤ 65536) (h : ∀ i, i < l.length → 0 ≤ List.getD l i 0 ∧ List.getD l i 0 < 65536) : ∀ (m i : Nat) (b : List B8), i + m = l.length → b.length + 5 * m ≤ 1000000000 → da b l p.globals p.locks p.slots p.funcs (l.length : Int) (i : Int) = some (b ++ zi l i m)
 | 0, i, b, hi, hb => by
  rw [da, iN (by omega), zi, List.append_nil]
 | m + 1, i, b, hi, hb => by
  have hx := h i (by omega)
  have q := bh (n := (List.getD l i 0).toNat) (by omega)
  have hw := zj p l hle h m (i + 1) (b ++ eC (List.getD l i 0).toNat) (by omega) (by rw [List.length_append]; omega)
  rw [da, iP (by omega), iP (by omega), iP (by omega), Int.toNat_natCast i, inc i (by omega), bind_some (jq b _ hx.1 (by omega) (by omega)), hw, zi, List.append_assoc]
theorem Ao {p : ac} (hg : bw p) (hk : ay p = some (0, 0, 0)) : kg p = some (0, gc p) := by
 have h1 := hg.globals; have h2 := hg.locks; have h3 := hg.slots; have h4 := hg.funcs
 have q1 := bh (n := p.globals.toNat) (by omega)
 have q2 := bh (n := p.locks.toNat) (by omega)
 have q3 := bh (n := p.slots.toNat) (by omega)
 have q4 := bh (n := p.funcs.length) (by omega)
 unfold kg
 rw [bind_some hk, if_neg (by decide)]
 unfold iO
 rw [if_pos (by decide), bind_some rfl, List.nil_append]
 have h7 := zj p [p.globals, p.locks, p.slots, (p.funcs.length : Int)] (by simp) (fun i hi => by
  have : i = 0 ∨ i = 1 ∨ i = 2 ∨ i = 3 := by simp at hi; omega
  rcases this with rfl | rfl | rfl | rfl
  ·show 0 ≤ p.globals ∧ p.globals < 65536; omega
  ·show 0 ≤ p.locks ∧ p.locks < 65536; omega
  ·show 0 ≤ p.slots ∧ p.slots < 65536; omega
  ·show 0 ≤ (p.funcs.length : Int) ∧ (p.funcs.length : Int) < 65536; omega) 4 0 [97#8, 108#8, 112#8, 49#8] rfl (by simp)
 have e7 : zi [p.globals, p.locks, p.slots, (p.funcs.length : Int)] 0 4 = eC p.globals.toNat ++ (eC p.locks.toNat ++ (eC p.slots.toNat ++ (eC p.funcs.length ++ []))) := rfl
 rw [e7, List.append_nil] at h7
 rw [bind_some (show da [97#8, 108#8, 112#8, 49#8] [p.globals, p.locks, p.slots, (p.funcs.length : Int)] p.globals p.locks p.slots p.funcs _ 0 = _ from h7)]
 have h12 := wU hg p.funcs.length 0 ([97#8, 108#8, 112#8, 49#8] ++ (eC p.globals.toNat ++ (eC p.locks.toNat ++ (eC p.slots.toNat ++ eC p.funcs.length)))) (by omega) (by simp only [List.length_append, List.length_cons, List.length_nil]; omega)
 rw [show ((0 : Nat) : Int) = 0 from rfl] at h12
 have hl := wV hg
 have ep : [97#8, 108#8, 112#8, 49#8] ++ (eC p.globals.toNat ++ (eC p.locks.toNat ++ (eC p.slots.toNat ++ eC p.funcs.length))) ++ lg p.funcs 0 p.funcs.length = gc p := by
  unfold gc; simp only [List.append_assoc]
 rw [bind_some h12, ep]
 unfold gC
 rw [if_pos (oH (by simp; omega)), List.nil_append]
 rfl
def kI (x : W32) (n : Nat) : W32 := (x <<< (32 - n)) ||| (x >>> n)
theorem Gz (i : Nat) (h : i ≤ 1000000) : dO 4 (i : Int) = ((4 * i : Nat) : Int) := by rw [yi (by omega) (by omega)]; omega
theorem GA (i : Nat) (h : i ≤ 1000000) : dO 8 (i : Int) = ((8 * i : Nat) : Int) := by rw [yi (by omega) (by omega)]; omega
theorem tb (i k : Nat) (h : i ≤ 1000000) (h2 : k ≤ i) : aD (i : Int) (k : Int) = ((i - k : Nat) : Int) := by rw [i7 (by omega) (by omega)]; omega
theorem il {α : Type} (f : Nat → α) (i : Nat) (v : α) : upd f i v i = v := by simp [upd]
theorem ma {α : Type} (f : Nat → α) {i j : Nat} (v : α) (h : j ≠ i) : upd f i v j = f j := by simp [upd, h]
theorem xP {α : Type} (f g : Nat → α) {n i : Nat} (h : i < n) : d9 f 0 n g i = g i := by unfold d9; rw [if_pos (by omega), Nat.sub_zero]
def wW (b : List B8) (i : Nat) : W32 := ((((BitVec.setWidth 32 (List.getD b (4 * i) 0#8)) <<< 24) ||| ((BitVec.setWidth 32 (List.getD b (4 * i + 1) 0#8)) <<< 16)) ||| ((BitVec.setWidth 32 (List.getD b (4 * i + 2) 0#8)) <<< 8)) ||| (BitVec.setWidth 32 (List.getD b (4 * i + 3) 0#8))
def wX (w : Nat → W32) (i : Nat) : W32 := ((w (i - 16) + ((kI (w (i - 15)) 7 ^^^ kI (w (i - 15)) 18) ^^^ (w (i - 15) >>> 3))) + w (i - 7)) + ((kI (w (i - 2)) 17 ^^^ kI (w (i - 2)) 19) ^^^ (w (i - 2) >>> 10))
def wN (b : List B8) : Nat → Nat → W32
 | 0 => fun i => if i < 16 then wW b i else 0#32
 | k + 1 => upd (wN b k) (16 + k) (wX (wN b k) (16 + k))
theorem Ap (b : List B8) (k j : Nat) : List.getD (List.drop k b) j 0#8 = List.getD b (k + j) 0#8 := by simp [List.getD]
theorem EP (b : List B8) (i : Nat) (h : 4 * i + 4 ≤ b.length) : qJ (List.drop (4 * i) b) = some (wW b i) := by
 have hl : (List.drop (4 * i) b).length = b.length - 4 * i := by simp
 unfold qJ
 rw [iP (by omega), iP (by omega), iP (by omega), iP (by omega)]
 simp only [Ap, Nat.add_zero]
 rfl
theorem wY (x0 : Nat → W32) (b : List B8) (hb : 64 ≤ b.length) : ∀ (m i : Nat) (x : Nat → W32), i + m = 16 → (∀ j, j < i → x j = wW b j) → ∃ y, dx x0 x b (i : Int) = some y ∧ ∀ j, j < 16 → y j = wW b j
 | 0, i, x, hi, h => by
  rw [dx, iN (by omega)]
  exact ⟨x, rfl, fun j hj => h j (by omega)⟩
 | m + 1, i, x, hi, h => by
  obtain ⟨y, q1, q2⟩ := wY x0 b hb m (i + 1) (upd x i (wW b i)) (by omega) (fun j hj => by
   by_cases e : j = i
   ·subst e; exact il _ _ _
   ·rw [ma _ _ e]; exact h j (by omega))
  refine ⟨y, ?_, q2⟩
  rw [dx, iP (by omega), Gz i (by omega), iP (by omega), iP (by omega), Int.toNat_natCast (4 * i), List.take_of_length_le (Nat.le_refl _), bind_some (EP b i (by omega)), iP (by omega), iP (by omega), Int.toNat_natCast i, inc i (by omega)]
  exact q1
theorem tc (x : W32) : bV x 2 = some (kI x 2) ∧ bV x 6 = some (kI x 6) ∧ bV x 7 = some (kI x 7) ∧ bV x 11 = some (kI x 11) ∧ bV x 13 = some (kI x 13) ∧ bV x 17 = some (kI x 17) ∧ bV x 18 = some (kI x 18) ∧ bV x 19 = some (kI x 19) ∧ bV x 22 = some (kI x 22) ∧ bV x 25 = some (kI x 25) :=
 ⟨by kernel_rfl, by kernel_rfl, by kernel_rfl, by kernel_rfl, by kernel_rfl, by kernel_rfl, by kernel_rfl, by kernel_rfl, by kernel_rfl, by kernel_rfl⟩
theorem wZ (x0 : Nat → W32) (b : List B8) : ∀ (m k : Nat) (x : Nat → W32), k + m = 48 → (∀ j, j < 16 + k → x j = wN b k j) → ∃ y, dz x0 x ((16 + k : Nat) : Int) = some y ∧ ∀ j, j < 64 → y j = wN b 48 j
 | 0, k, x, hk, h => by
  rw [dz, iN (by omega)]
  have : k = 48 := by omega
  subst this
  exact ⟨x, rfl, fun j hj => h j (by omega)⟩
 | m + 1, k, x, hk, h => by
  have e1 := tb (16 + k) 15 (by omega) (by omega)
  have e2 := tb (16 + k) 2 (by omega) (by omega)
  have e3 := tb (16 + k) 16 (by omega) (by omega)
  have e4 := tb (16 + k) 7 (by omega) (by omega)
  have hw : wX x (16 + k) = wX (wN b k) (16 + k) := by
   unfold wX
   rw [h (16 + k - 16) (by omega), h (16 + k - 15) (by omega), h (16 + k - 7) (by omega), h (16 + k - 2) (by omega)]
  obtain ⟨y, q1, q2⟩ := wZ x0 b m (k + 1) (upd x (16 + k) (wX x (16 + k))) (by omega) (fun j hj => by
   show _ = upd (wN b k) (16 + k) (wX (wN b k) (16 + k)) j
   by_cases e : j = 16 + k
   ·subst e; rw [il, il, hw]
   ·rw [ma _ _ e, ma _ _ e]; exact h j (by omega))
  refine ⟨y, ?_, q2⟩
  have t1 := tc (x (16 + k - 15))
  have t2 := tc (x (16 + k - 2))
  have e1 : aD ((16 + k : Nat) : Int) 15 = ((16 + k - 15 : Nat) : Int) := e1
  have e2 : aD ((16 + k : Nat) : Int) 2 = ((16 + k - 2 : Nat) : Int) := e2
  have e3 : aD ((16 + k : Nat) : Int) 16 = ((16 + k - 16 : Nat) : Int) := e3
  have e4 : aD ((16 + k : Nat) : Int) 7 = ((16 + k - 7 : Nat) : Int) := e4
  rw [dz, iP (by omega), e1, iP (by omega), iP (by omega), e2, iP (by omega), iP (by omega), e3, iP (by omega), iP (by omega),
   Int.toNat_natCast (16 + k - 15), Int.toNat_natCast (16 + k - 2), Int.toNat_natCast (16 + k - 16), bind_some t1.2.2.1, bind_some t1.2.2.2.2.2.2.1, e4, iP (by omega), iP (by omega), Int.toNat_natCast (16 + k - 7), bind_some t2.2.2.2.2.2.1, bind_some t2.2.2.2.2.2.2.2.1, iP (by omega), iP (by omega), Int.toNat_natCast (16 + k), inc (16 + k) (by omega)]
  exact q1
theorem CB (b : List B8) (hb : 64 ≤ b.length) : ∃ y, lv b = some y ∧ ∀ j, j < 64 → y j = wN b 48 j := by
 obtain ⟨x, q1, q2⟩ := wY (fun _ => 0#32) b hb 16 0 (fun _ => 0#32) (by omega) (fun j hj => by omega)
 obtain ⟨y, q3, q4⟩ := wZ (fun _ => 0#32) b 48 0 x (by omega) (fun j hj => by
  rw [q2 j (by omega)]
  show _ = if j < 16 then wW b j else 0#32
  rw [if_pos (by omega)])
 unfold lv
 rw [bind_some (show dx _ _ b 0 = _ from q1), bind_some (show dz _ x 16 = _ from q3)]
 exact ⟨_, rfl, fun j hj => by rw [xP _ _ hj]; exact q4 j hj⟩
def FU (s : Nat → W32) (k w : W32) : W32 := (((s 7 + ((kI (s 4) 6 ^^^ kI (s 4) 11) ^^^ kI (s 4) 25)) + ((s 4 &&& s 5) ^^^ (~~~(s 4) &&& s 6))) + k) + w
def GB (s : Nat → W32) : W32 := ((kI (s 0) 2 ^^^ kI (s 0) 13) ^^^ kI (s 0) 22) + (((s 0 &&& s 1) ^^^ (s 0 &&& s 2)) ^^^ (s 1 &&& s 2))
def rnd (s : Nat → W32) (k w : W32) : Nat → W32 := fun i => if i = 0 then FU s k w + GB s else if i = 4 then s 3 + FU s k w else if i < 8 then s (i - 1) else s i
def rds (w : Nat → W32) (s : Nat → W32) : Nat → Nat → W32
 | 0 => s
 | k + 1 => rnd (rds w s k) (xq k) (w k)
def comp (h : Nat → W32) (b : List B8) : Nat → W32 := fun i => if i < 8 then h i + rds (wN b 48) (d9 (fun _ => 0#32) 0 8 h) 64 i else h i
theorem FV (x : Nat → W32) (t u : W32) (k w : W32) (ht : t = FU x k w) (hu : u = t + GB x) : upd (upd (d9 x 1 7 (fun i => x (gF 0 i))) 4 ((d9 x 1 7 (fun i => x (gF 0 i))) 4 + t)) 0 u = rnd x k w := by
 funext i
 subst hu ht
 unfold rnd
 by_cases h0 : i = 0
 ·subst h0; rw [il, if_pos rfl]
 ·rw [ma _ _ h0, if_neg h0]
  by_cases h4 : i = 4
  ·subst h4; rw [il, if_pos rfl]; rfl
  ·rw [ma _ _ h4, if_neg h4]
   unfold d9
   by_cases h8 : i < 8
   ·rw [if_pos (by omega), if_pos h8]; rfl
   ·rw [if_neg (by omega), if_neg h8]
theorem Dj (x0 : List B8) (x1 : Nat → W32) (w : Nat → W32) (hw : ∀ j, j < 64 → x1 j = w j) (s : Nat → W32) (x3 : Nat → W32) (x4 x5 : Nat) (x6 : BitVec 64) : ∀ (m k : Nat), k + m = 64 → bE x0 x1 (rds w s k) x3 x4 x5 x6 xq (k : Int) = some (rds w s 64)
 | 0, k, hk => by
  have : k = 64 := by omega
  subst this
  rw [bE, if_neg (by simp)]
 | m + 1, k, hk => by
  have ih := Dj x0 x1 w hw s x3 x4 x5 x6 m (k + 1) (by omega)
  have t1 := tc (rds w s k 4)
  have t2 := tc (rds w s k 0)
  rw [bE, iP (by omega), iP (by omega), iP (by omega), bind_some t1.2.1, bind_some t1.2.2.2.1, bind_some t1.2.2.2.2.2.2.2.2.2, bind_some t2.1, bind_some t2.2.2.2.2.1, bind_some t2.2.2.2.2.2.2.2.2.1, Int.toNat_natCast k, inc k (by omega), hw k (by omega)]
  exact (congrArg (fun z => bE x0 x1 z x3 x4 x5 x6 xq ((k + 1 : Nat) : Int)) (FV (rds w s k) _ _ (xq k) (w k) rfl rfl)).trans ih
theorem Bj (x0 : List B8) (r h : Nat → W32) (x3 x4 : Nat) (x5 : BitVec 64) : ∀ (m k : Nat) (x : Nat → W32), k + m = 8 → (∀ j, x j = if j < k then h j + r j else h j) → ∃ y, bJ x0 r x x3 x4 x5 (k : Int) = some y ∧ ∀ j, y j = if j < 8 then h j + r j else h j
 | 0, k, x, hk, hx => by
  have : k = 8 := by omega
  subst this
  rw [bJ, if_neg (by simp)]
  exact ⟨x, rfl, hx⟩
 | m + 1, k, x, hk, hx => by
  obtain ⟨y, q1, q2⟩ := Bj x0 r h x3 x4 x5 m (k + 1) (upd x k (x k + r k)) (by omega) (fun j => by
   by_cases e : j = k
   ·subst e; rw [il, if_pos (by omega), hx, if_neg (by omega)]
   ·rw [ma _ _ e, hx]
    by_cases h1 : j < k
    ·rw [if_pos h1, if_pos (by omega)]
    ·rw [if_neg h1, if_neg (by omega)])
  refine ⟨y, ?_, q2⟩
  rw [bJ, iP (by omega), iP (by omega), iP (by omega), Int.toNat_natCast k, inc k (by omega)]
  exact q1
theorem FW (l1 : List B8) (h : Nat → W32) (lo n : Nat) (c : BitVec 64) (b : List B8) (hb : 64 ≤ b.length) : gS l1 h lo n c b = some (comp h b) := by
 obtain ⟨y, q1, q2⟩ := CB b hb
 unfold gS
 have q3 := Dj l1 (d9 (fun _ => 0#32) 0 64 y) (wN b 48) (fun j hj => by rw [xP _ _ hj]; exact q2 j hj) (d9 (fun _ => 0#32) 0 8 h) h lo n c 64 0 (by omega)
 obtain ⟨z, q4, q5⟩ := Bj l1 (rds (wN b 48) (d9 (fun _ => 0#32) 0 8 h) 64) h lo n c 8 0 h (by omega) (fun j => by rw [if_neg (by omega)])
 rw [bind_some q1, bind_some (show bE l1 (d9 (fun _ => 0#32) 0 64 y) (d9 (fun _ => 0#32) 0 8 h) h lo n c xq 0 = _ from q3), bind_some (show bJ l1 _ h lo n c 0 = _ from q4)]
 congr 1
 funext j
 exact q5 j
def blk (h : Nat → W32) (l : List B8) : Nat → Nat → W32
 | 0 => h
 | k + 1 => comp (blk h l k) (List.take 64 (List.drop (64 * k) l))
theorem Bk (h : Nat → W32) (t b : List B8) : ∀ k, 64 * k ≤ t.length → blk h (t ++ b) k = blk h t k
 | 0, _ => rfl
 | k + 1, hk => by
  simp only [blk]
  rw [Bk h t b k (by omega), List.drop_append_of_le_length (by omega), List.take_append_of_le_length (by simp; omega)]
theorem Bl (h : Nat → W32) (l : List B8) (q : Nat) : ∀ k, blk (blk h l q) (List.drop (64 * q) l) k = blk h l (q + k)
 | 0 => rfl
 | k + 1 => by
  simp only [blk]
  rw [Bl h l q k, List.drop_drop, show 64 * q + 64 * k = 64 * (q + k) by omega]
  rfl
theorem zk (x0 l : List B8) (h : Nat → W32) (x3 x4 : Nat) (x5 : BitVec 64) (hl : l.length ≤ 1000000000) : ∀ (m j : Nat), j + m = l.length / 64 → bz x0 l (blk h l j) x3 x4 x5 (64 * j) (l.length - 64 * j) = some (blk h l (l.length / 64), 64 * (l.length / 64), l.length - 64 * (l.length / 64))
 | 0, j, hj => by
  rw [bz, iN (by omega)]
  rw [show j = l.length / 64 by omega]
 | m + 1, j, hj => by
  have ih := zk x0 l h x3 x4 x5 hl m (j + 1) (by omega)
  rw [bz, iP (by omega), iP (by omega), fp, fp, iP (by omega), Nat.add_zero, bind_some (FW x0 (blk h l j) x3 x4 x5 _ (by simp; omega)), show 64 * j + 64 = 64 * (j + 1) by omega, show l.length - 64 * j - 64 = l.length - 64 * (j + 1) by omega]
  exact ih
def H0 (i : Nat) : W32 := List.getD [1779033703#32, 3144134277#32, 1013904242#32, 2773480762#32, 1359893119#32, 2600822924#32, 528734635#32, 1541459225#32] i (0#32)
structure Rep (l1 : List B8) (h : Nat → W32) (lo n : Nat) (c : BitVec 64) (t : List B8) : Prop where
 hh : h = blk H0 t (t.length / 64)
 left : List.take n (List.drop lo l1) = List.drop (64 * (t.length / 64)) t
 nn : n = t.length - 64 * (t.length / 64)
 fits : lo + n ≤ l1.length
 cc : c = BitVec.ofNat 64 t.length
theorem m7 {l1 : List B8} {h : Nat → W32} {lo n : Nat} {c : BitVec 64} {t : List B8} (r : Rep l1 h lo n c t) (b : List B8) (hs : t.length + b.length ≤ 100000000) : ∃ l' h' lo' n' c', cz l1 h lo n c b = some (l', h', lo', n', c') ∧ Rep l' h' lo' n' c' (t ++ b) := by
 have hq := r.nn
 have hL : (List.drop (64 * (t.length / 64)) t ++ b) = List.drop (64 * (t.length / 64)) (t ++ b) := (List.drop_append_of_le_length (by omega)).symm
 have hn : (List.drop (64 * (t.length / 64)) (t ++ b)).length = t.length + b.length - 64 * (t.length / 64) := by simp
 have hd : t.length / 64 + (t.length + b.length - 64 * (t.length / 64)) / 64 = (t ++ b).length / 64 := by rw [List.length_append]; omega
 have w := zk l1 (List.drop (64 * (t.length / 64)) (t ++ b)) h lo n (c + BitVec.ofInt 64 (b.length : Int)) (by rw [hn]; omega) ((List.drop (64 * (t.length / 64)) (t ++ b)).length / 64) 0 (by omega)
 rw [Nat.mul_zero, Nat.sub_zero] at w
 have w : bz l1 (List.drop (64 * (t.length / 64)) (t ++ b)) h lo n (c + BitVec.ofInt 64 (b.length : Int)) 0 (List.drop (64 * (t.length / 64)) (t ++ b)).length = _ := w
 refine ⟨(List.drop (64 * (t.length / 64)) (t ++ b)), blk h (List.drop (64 * (t.length / 64)) (t ++ b)) ((List.drop (64 * (t.length / 64)) (t ++ b)).length / 64), 64 * ((List.drop (64 * (t.length / 64)) (t ++ b)).length / 64), (List.drop (64 * (t.length / 64)) (t ++ b)).length - 64 * ((List.drop (64 * (t.length / 64)) (t ++ b)).length / 64), c + BitVec.ofInt 64 (b.length : Int), ?_, ?_⟩
 ·unfold cz
  rw [if_pos (decide_eq_true r.fits), if_pos (oH (by simp; omega)), List.nil_append, r.left, if_pos (oH (by simp; omega)), hL, bind_some w]
 ·refine ⟨?_, ?_, ?_, ?_, ?_⟩
  ·rw [hn, r.hh, ← Bk H0 t b _ (by omega), Bl, hd]
  ·rw [hn, List.take_of_length_le (by simp; omega), List.drop_drop, show 64 * (t.length / 64) + 64 * ((t.length + b.length - 64 * (t.length / 64)) / 64) = 64 * (t.length / 64 + (t.length + b.length - 64 * (t.length / 64)) / 64) by omega, hd]
  ·rw [hn, ← hd, List.length_append]; omega
  ·rw [hn]; omega
  ·rw [r.cc, List.length_append]
   apply BitVec.eq_of_toNat_eq
   rw [BitVec.toNat_add, BitVec.toNat_ofInt, BitVec.toNat_ofNat, BitVec.toNat_ofNat]
   omega
def pz (n : Nat) : Nat := (64 + 56 - n % 64) % 64
theorem Dk (x0 : List B8) (x1 : Nat → B8) (x3 : Nat → W32) (x4 x5 : Nat) (x6 x11 : BitVec 64) : ∀ (m : Nat) (l1 : List B8) (h : Nat → W32) (lo n : Nat) (c : BitVec 64) (t : List B8), m = pz t.length → t.length + m ≤ 90000000 → Rep l1 h lo n c t → ∃ l' h' lo' n' c', cH x0 x1 l1 x3 x4 x5 x6 h lo n c x11 = some (l', h', lo', n', c') ∧ Rep l' h' lo' n' c' (t ++ List.replicate m 0#8)
 | 0, l1, h, lo, n, c, t, hm, hs, r => by
  have hn := r.nn
  unfold pz at hm
  rw [cH, if_neg (by simp only [bne_iff_ne, ne_eq, Decidable.not_not]; omega)]
  exact ⟨_, _, _, _, _, rfl, by rw [List.replicate_zero, List.append_nil]; exact r⟩
 | m + 1, l1, h, lo, n, c, t, hm, hs, r => by
  have hn := r.nn
  unfold pz at hm
  obtain ⟨a1, a2, a3, a4, a5, w, r'⟩ := m7 r [0#8] (by simp; omega)
  have hp : pz (t ++ [0#8]).length = m := by unfold pz; rw [List.length_append, List.length_singleton]; omega
  obtain ⟨b1, b2, b3, b4, b5, w2, r2⟩ := Dk x0 x1 x3 x4 x5 x6 x11 m a1 a2 a3 a4 a5 (t ++ [0#8]) hp.symm (by simp; omega) r'
  refine ⟨b1, b2, b3, b4, b5, ?_, ?_⟩
  ·rw [cH, if_pos (by simp only [bne_iff_ne, ne_eq]; omega), bind_some w]
   exact w2
  ·rw [List.append_assoc] at r2
   exact r2
def zl (n : Nat) : List B8 := (List.range 8).map fun i => BitVec.setWidth 8 ((BitVec.ofNat 64 n * 8#64) >>> (56 - 8 * i))
theorem Dl (x0 : List B8) (x1 : Nat → B8) (x2 : List B8) (x4 : Nat → W32) (x5 x6 : Nat) (x7 : BitVec 64) (x8 : Nat → W32) (x9 x10 : Nat) (x11 x12 : BitVec 64) : ∀ (m k : Nat) (x : Nat → B8), k + m = 8 → (∀ j, j < k → x j = BitVec.setWidth 8 (x12 >>> (56 - 8 * j))) → ∃ y, cj x0 x1 x2 x x4 x5 x6 x7 x8 x9 x10 x11 x12 (k : Int) = some y ∧ ∀ j, j < 8 → y j = BitVec.setWidth 8 (x12 >>> (56 - 8 * j))
 | 0, k, x, hk, hx => by
  rw [cj, iN (by omega)]
  exact ⟨x, rfl, fun j hj => hx j (by omega)⟩
 | m + 1, k, x, hk, hx => by
  have e1 : aD 56 ((8 * k : Nat) : Int) = ((56 - 8 * k : Nat) : Int) := by rw [i7 (by omega) (by omega)]; omega
  obtain ⟨y, q1, q2⟩ := Dl x0 x1 x2 x4 x5 x6 x7 x8 x9 x10 x11 x12 m (k + 1) (upd x k (BitVec.setWidth 8 (x12 >>> (56 - 8 * k)))) (by omega) (fun j hj => by
   by_cases e : j = k
   ·subst e; exact il _ _ _
   ·rw [ma _ _ e]; exact hx j (by omega))
  refine ⟨y, ?_, q2⟩
  rw [cj, iP (by omega), GA k (by omega), e1, iP (by omega), iP (by omega), iP (by omega), Int.toNat_natCast k, Int.toNat_natCast (56 - 8 * k), inc k (by omega)]
  exact q1
def CC (h : Nat → W32) (i : Nat) : B8 := BitVec.setWidth 8 (h (i / 4) >>> (24 - 8 * (i % 4)))
theorem Bn (x0 : List B8) (x1 : Nat → B8) (x3 : Nat → W32) (x4 x5 : Nat) (x6 : BitVec 64) (h : Nat → W32) (q : Nat) (hq : q < 8) (x10 : Int) : ∀ (m k : Nat) (x : Nat → B8), k + m = 4 → (∀ j, j < 4 * q + k → x j = CC h j) → ∃ y, bK x0 x1 x x3 x4 x5 x6 (q : Int) (h q) h x10 (k : Int) = some y ∧ ∀ j, j < 4 * (q + 1) → y j = CC h j
 | 0, k, x, hk, hx => by
  rw [bK, iN (by omega)]
  exact ⟨x, rfl, fun j hj => hx j (by omega)⟩
 | m + 1, k, x, hk, hx => by
  have e1 : aD 24 ((8 * k : Nat) : Int) = ((24 - 8 * k : Nat) : Int) := by rw [i7 (by omega) (by omega)]; omega
  have e2 : am ((4 * q : Nat) : Int) (k : Int) = ((4 * q + k : Nat) : Int) := by rw [j7 (by omega) (by omega)]; omega
  obtain ⟨y, q1, q2⟩ := Bn x0 x1 x3 x4 x5 x6 h q hq x10 m (k + 1) (upd x (4 * q + k) (BitVec.setWidth 8 (h q >>> (24 - 8 * k)))) (by omega) (fun j hj => by
   by_cases e : j = 4 * q + k
   ·subst e
    rw [il]
    unfold CC
    rw [show (4 * q + k) / 4 = q by omega, show (4 * q + k) % 4 = k by omega]
   ·rw [ma _ _ e]; exact hx j (by omega))
  refine ⟨y, ?_, q2⟩
  rw [bK, iP (by omega), GA k (by omega), e1, iP (by omega), Gz q (by omega), e2, iP (by omega), iP (by omega), Int.toNat_natCast (4 * q + k), Int.toNat_natCast (24 - 8 * k), inc k (by omega)]
  exact q1
theorem Bo (x0 : List B8) (x1 : Nat → B8) (x3 : Nat → W32) (x4 x5 : Nat) (x6 : BitVec 64) (h : Nat → W32) : ∀ (m q : Nat) (x : Nat → B8), q + m = 8 → (∀ j, j < 4 * q → x j = CC h j) → ∃ y, bL x0 x1 x x3 x4 x5 x6 h (q : Int) = some y ∧ ∀ j, j < 32 → y j = CC h j
 | 0, q, x, hq, hx => by
  rw [bL, iN (by omega)]
  exact ⟨x, rfl, fun j hj => hx j (by omega)⟩
 | m + 1, q, x, hq, hx => by
  obtain ⟨y, q1, q2⟩ := Bn x0 x1 x3 x4 x5 x6 h q (by omega) (q : Int) 4 0 x (by omega) hx
  obtain ⟨z, q3, q4⟩ := Bo x0 x1 x3 x4 x5 x6 h m (q + 1) y (by omega) q2
  refine ⟨z, ?_, q4⟩
  rw [bL, iP (by omega), iP (by omega), iP (by omega), Int.toNat_natCast q, bind_some (show bK x0 x1 x x3 x4 x5 x6 (q : Int) (h q) h (q : Int) 0 = _ from q1), inc q (by omega)]
  exact q3
def GC (t : List B8) : List B8 := ((t ++ [128#8]) ++ List.replicate (pz (t.length + 1)) 0#8) ++ zl t.length
def iE (t : List B8) (i : Nat) : B8 := if i < 32 then CC (blk H0 (GC t) ((GC t).length / 64)) i else 0#8
theorem CD (v : Nat → B8) (n : Nat) (h : ∀ j, j < 8 → v j = BitVec.setWidth 8 ((BitVec.ofNat 64 n * 8#64) >>> (56 - 8 * j))) : yl v 0 8 = zl n := by
 unfold zl
 show [v 0, v 1, v 2, v 3, v 4, v 5, v 6, v 7] = _
 rw [h 0 (by omega), h 1 (by omega), h 2 (by omega), h 3 (by omega), h 4 (by omega), h 5 (by omega), h 6 (by omega), h 7 (by omega)]
 rfl
theorem FX {l1 : List B8} {h : Nat → W32} {lo n : Nat} {c : BitVec 64} {t : List B8} (r : Rep l1 h lo n c t) (hs : t.length ≤ 80000000) : gT l1 h lo n c = some (iE t) := by
 have hn := r.nn
 have hl : (List.take n (List.drop lo l1)).length = n := by rw [r.left]; simp; omega
 have r0 : Rep (List.take n (List.drop lo l1)) h 0 (List.take n (List.drop lo l1)).length c t := by
  refine ⟨r.hh, ?_, ?_, ?_, r.cc⟩
  ·rw [List.drop_zero, List.take_length, r.left]
  ·rw [hl]; exact hn
  ·omega
 obtain ⟨a1, a2, a3, a4, a5, w, r1⟩ := m7 r0 [128#8] (by simp; omega)
 have hp : pz (t ++ [128#8]).length ≤ 64 := by unfold pz; omega
 obtain ⟨b1, b2, b3, b4, b5, w2, r2⟩ := Dk l1 (fun _ => 0#8) h lo n c (c * 8#64) _ a1 a2 a3 a4 a5 (t ++ [128#8]) rfl (by simp at hp ⊢; omega) r1
 obtain ⟨y, w3, q3⟩ := Dl l1 (fun _ => 0#8) b1 h lo n c b2 b3 b4 b5 (c * 8#64) 8 0 (fun _ => 0#8) (by omega) (fun j hj => by omega)
 have ht : yl y 0 8 = zl t.length := CD y _ (fun j hj => by rw [q3 j hj, r.cc])
 obtain ⟨d1, d2, d3, d4, d5, w4, r4⟩ := m7 r2 (yl y 0 8) (by rw [ht]; simp [zl] at hp ⊢; omega)
 obtain ⟨z, w5, q5⟩ := Bo l1 (fun _ => 0#8) h lo n c d2 8 0 (fun _ => 0#8) (by omega) (fun j hj => by omega)
 unfold gT
 rw [if_pos (decide_eq_true r.fits), if_pos (oH (by simp; omega)), List.nil_append, bind_some w, bind_some w2, bind_some (show cj l1 _ b1 _ h lo n c b2 b3 b4 b5 (c * 8#64) 0 = _ from w3), bind_some w4, bind_some (show bL l1 _ (fun _ => 0#8) h lo n c d2 0 = _ from w5)]
 congr 1
 funext i
 unfold iE
 by_cases hi : i < 32
 ·rw [xP _ _ hi, if_pos hi, q5 i hi]
  have := r4.hh
  rw [ht, List.length_append, List.length_singleton] at this
  rw [this]
  rfl
 ·rw [if_neg hi]; unfold d9; rw [if_neg (by omega)]
theorem GD (b : List B8) (hs : b.length ≤ 80000000) : xE [b] = some (iE b) := by
 have r0 : Rep [] H0 0 0 0#64 [] := ⟨rfl, rfl, rfl, Nat.le_refl _, rfl⟩
 obtain ⟨a1, a2, a3, a4, a5, w, r1⟩ := m7 r0 b (by simp; omega)
 rw [List.nil_append] at r1
 have hN : yA = some ([], H0, 0#64) := rfl
 have hl : f7 (fun _ => 0#8) [] H0 0 0 0#64 [b] 1 0 = some (a1, a2, a3, a4, a5) := by
  rw [f7, if_pos (decide_eq_true (by decide)), if_pos (decide_eq_true (by decide)), if_pos (decide_eq_true (by simp))]
  show (cz [] H0 0 0 0#64 b >>= _) = _
  rw [bind_some w, show am 0 1 = 1 by kernel_rfl, f7, if_neg (by decide)]
 unfold xE
 rw [bind_some hN]
 show (f7 (fun _ => 0#8) [] H0 0 0 0#64 [b] 1 0 >>= _) = _
 rw [bind_some hl, bind_some (FX r1 hs)]
 congr 1
 funext i
 unfold d9 iE
 by_cases hi : i < 32
 ·rw [if_pos (by omega), if_pos hi, Nat.sub_zero, if_pos hi]
 ·rw [if_neg (by omega), if_neg hi]
theorem mb {p : ac} (hg : bw p) (hk : ay p = some (0, 0, 0)) : fu p = some (iE (gc p), 0) := by
 have hl := wV hg
 unfold fu
 rw [bind_some (Ao hg hk)]
 simp only []
 rw [if_neg (by decide), bind_some (GD (gc p) (by omega))]
 congr 2
 funext i
 unfold d9 iE
 by_cases hi : i < 32
 ·rw [if_pos (by omega), if_pos hi, Nat.sub_zero, if_pos hi]
 ·rw [if_neg (by omega), if_neg hi]
theorem te (a k : Nat) : dH (a : Int) (k : Int) = ((a % k : Nat) : Int) := by
 unfold dH
 rw [Int.tmod_eq_emod_of_nonneg (by omega)]
 rfl
abbrev t8 (s : Nat → W32) : W32 × W32 × W32 × W32 × W32 × W32 × W32 × W32 := (s 0, s 1, s 2, s 3, s 4, s 5, s 6, s 7)
abbrev h8 (h : Nat → W32) : List W32 := [h 0, h 1, h 2, h 3, h 4, h 5, h 6, h 7]
def oJ (j : ag) (locks : Int) : Bool := if j.kind = 2 then decide (0 ≤ j.lock) && decide (j.lock < locks) else if j.kind = 0 then j.lock == 0 else if j.kind = 1 then j.lock == 0 else false
theorem Dm (j : ag) (locks : Int) : jU j locks = some (oJ j locks) := by
 unfold jU oJ
 by_cases h2 : j.kind = 2
 ·rw [if_pos (eqT h2), if_pos h2]
  by_cases h0 : 0 ≤ j.lock
  ·rw [if_pos (decide_eq_true h0), decide_eq_true h0, Bool.true_and]
  ·rw [if_neg (by simpa using h0), decide_eq_false h0, Bool.false_and]
 ·rw [if_neg (eqF h2), if_neg h2]
  by_cases h0 : j.kind = 0
  ·rw [if_pos (eqT h0), if_pos h0]
  ·rw [if_neg (eqF h0), if_neg h0]
   by_cases h1 : j.kind = 1
   ·rw [if_pos (eqT h1), if_pos h1]
   ·rw [if_neg (eqF h1), if_neg h1]
def acc (x : aa) : Bool := x.kind == 1 || x.kind == 2
def fW (j : ag) (w : Bool) (h l : W32) : Bool := if l = 0#32 then true else if j.kind = 1 then !w else if j.kind = 2 then i6 h j.lock else false
theorem Dn (j : ag) (w : Bool) (h l : W32) : jV j w h l = some (fW j w h l) := by
 unfold jV fW
 by_cases h0 : l = 0#32
 ·rw [if_pos (by simpa using h0), if_pos h0]
 ·rw [if_neg (by simpa using h0), if_neg h0]
  by_cases h1 : j.kind = 1
  ·rw [if_pos (eqT h1), if_pos h1]
  ·rw [if_neg (eqF h1), if_neg h1]
   by_cases h2 : j.kind = 2
   ·rw [if_pos (eqT h2), if_pos h2, bind_some (show bT h j.lock = some (i6 h j.lock) from oN _ _)]
   ·rw [if_neg (eqF h2), if_neg h2]
theorem ri (x : aa) : f8 x = some (x.arg, x.kind == 2, acc x) := by
 unfold f8 acc
 by_cases h : x.kind = 1
 ·rw [if_pos (eqT h), eqT h]; rfl
 ·rw [if_neg (eqF h), show (x.kind == 1) = false by simpa using h]; rfl
abbrev jus (js : List ag) (i : Int) : ag := List.getD js i.toNat ak
def grd (p : ac) (l : List ad) (js : List ag) (f i : Nat) : Bool := !acc (nde p f i) || fW (jus js (nde p f i).arg) ((nde p f i).kind == 2) (hld l f i) (liv l f i)
def Aq (p : ac) (l : List ad) (js : List ag) (f i : Nat) : Option Unit := if grd p l js f i = true then none else some ()
def m16 : Option (Nat × Unit) → cp
 | some (k, _) => .x0 k 8 0
 | none => .x1
theorem w0 (p : ac) (hg : bw p) (l : List ad) (hs : Shp p l) (js : List ag) (hj : (js.length : Int) = p.globals) (f : Nat) (hf : f < p.funcs.length) (x7 x8 : Int) : ∀ (m i : Nat), i + m = (List.getD p.funcs f []).length → bW 0 0 0 l js (f : Int) p.funcs x7 x8 (List.getD p.funcs f []) ((List.getD p.funcs f []).length : Int) (i : Int) = some (m16 (b6 (Aq p l js f) i m))
 | 0, i, h => by rw [bW, iN (by omega)]; rfl
 | m + 1, i, h => by
  have hle := hg.le f
  have ih := w0 p hg l hs js hj f hf x7 x8 m (i + 1) (by omega)
  have hl := hs.1
  have h1 : (List.getD l f ae).held.length = (List.getD p.funcs f []).length := (hs.2 f hf).1
  have h2 : (List.getD l f ae).live.length = (List.getD p.funcs f []).length := (hs.2 f hf).2
  have hgl : acc (nde p f i) = true → 0 ≤ (nde p f i).arg ∧ (nde p f i).arg < p.globals := fun ha => (hg.node f i hf (by omega)).glob (by simpa [acc] using ha)
  have hsolo : gh (List.getD l f ae) (i : Int) = some (liv l f i == 0#32) := by
   unfold gh
   rw [iP (by omega), iP (by omega), iP (by omega), iP (by omega), Int.toNat_natCast i]
  rw [bW, iP (by omega), iP (by omega), iP (by omega), Int.toNat_natCast i, bind_some (ri _), inc i (by omega), eK, Int.toNat_natCast f]
  unfold Aq
  by_cases ha : acc (nde p f i) = true
  ·have hg2 := hgl ha
   have hg2 : 0 ≤ (List.getD (List.getD p.funcs f []) i ab).arg ∧ (List.getD (List.getD p.funcs f []) i ab).arg < p.globals := hg2
   by_cases h0 : liv l f i = 0#32
   ·rw [if_pos ha, iP (by omega), iP (by omega), bind_some (show gh (List.getD l f ae) (i : Int) = some true by rw [hsolo, h0]; rfl), if_neg (by decide), if_pos (by unfold grd fW; rw [if_pos h0]; simp), ih]
    rfl
   ·rw [if_pos ha, iP (by omega), iP (by omega), bind_some (show gh (List.getD l f ae) (i : Int) = some false by rw [hsolo, show (liv l f i == 0#32) = false by simpa using h0]), if_pos (by decide), if_pos (decide_eq_true hg2.1), iP (by omega), iP (by omega), iP (by omega), bind_some (Dn _ _ _ _)]
    have hgr : grd p l js f i = fW (jus js (nde p f i).arg) ((nde p f i).kind == 2) (hld l f i) (liv l f i) := by unfold grd; rw [ha]; simp
    cases hh : fW (jus js (nde p f i).arg) ((nde p f i).kind == 2) (hld l f i) (liv l f i) with
    | true =>
     rw [if_neg (by decide), if_pos (hgr.trans hh), ih]
     rfl
    | false =>
     rw [if_pos (by decide), if_neg (by rw [hgr, hh]; decide)]
     rfl
  ·rw [if_neg ha, if_pos (by unfold grd; rw [show acc (nde p f i) = false by simpa using ha]; rfl), ih]
   rfl
def fgO (p : ac) (l : List ad) (js : List ag) (f : Nat) : Option Nat := (b6 (Aq p l js f) 0 (List.getD p.funcs f []).length).map fun x => x.1
def GX : Option (Nat × Nat) → cq
 | some (f, k) => .x0 f k 8 0
 | none => .x1
theorem w6 (p : ac) (hg : bw p) (l : List ad) (hs : Shp p l) (js : List ag) (hj : (js.length : Int) = p.globals) : ∀ (m f : Nat), f + m = p.funcs.length → de 0 0 0 l js p.funcs (p.funcs.length : Int) (f : Int) = some (GX (b6 (fgO p l js) f m))
 | 0, f, h => by rw [de, iN (by omega)]; rfl
 | m + 1, f, h => by
  have hn := hg.funcs.2
  have h16 := w0 p hg l hs js hj f (by omega) (p.funcs.length : Int) (f : Int) (List.getD p.funcs f []).length 0 (by omega)
  rw [show ((0 : Nat) : Int) = 0 from rfl] at h16
  rw [de, iP (by omega), iP (by omega), iP (by omega), Int.toNat_natCast f, bind_some h16, inc f (by omega), w6 p hg l hs js hj m (f + 1) (by omega), eK]
  unfold fgO
  cases b6 (Aq p l js f) 0 (List.getD p.funcs f []).length with
  | none => rfl
  | some z => rfl
def Ar (p : ac) (js : List ag) (i : Nat) : Option Unit := if oJ (List.getD js i ak) p.locks = true then none else some ()
def m7g : Option (Nat × Unit) → cL
 | some (k, _) => .x0 (-1) k 8 0
 | none => .x1
theorem zm (p : ac) (l : List ad) (js : List ag) (hj : js.length ≤ 1000) : ∀ (m i : Nat), i + m = js.length → dG p.globals p.locks p.slots p.funcs 0 0 0 l js js (js.length : Int) (i : Int) = some (m7g (b6 (Ar p js) i m))
 | 0, i, h => by rw [dG, iN (by omega)]; rfl
 | m + 1, i, h => by
  rw [dG, iP (by omega), iP (by omega), iP (by omega), Int.toNat_natCast i, bind_some (Dm _ _), inc i (by omega), zm p l js hj m (i + 1) (by omega), eK]
  unfold Ar
  cases hr : oJ (List.getD js i ak) p.locks with
  | true => rw [if_neg (by decide), if_pos rfl]
  | false => rw [if_pos (by decide), if_neg (by decide)]; rfl
def eJ (p : ac) (l : List ad) (js : List ag) : ax := match b6 (Ar p js) 0 js.length with
 | some (j, _) => ⟨-1, j, 8⟩
 | none => match b6 (fgO p l js) 0 p.funcs.length with
  | some (f, k) => ⟨f, k, 8⟩
  | none => ⟨0, 0, 0⟩
theorem Au (p : ac) (hg : bw p) (hk : ay p = some (0, 0, 0)) (l : List ad) (hs : Shp p l) (js : List ag) (hj : (js.length : Int) = p.globals) : f9 p l js = some (eJ p l js, 0) := by
 have hn := hg.funcs.2
 have hgl := hg.globals.2
 obtain ⟨b, b1, _, b2⟩ := jg p l (by omega)
 have hb := b2.2 hs
 have h7 := zm p l js (by omega) js.length 0 (by omega)
 have h13 := w6 p hg l hs js hj p.funcs.length 0 (by omega)
 rw [show ((0 : Nat) : Int) = 0 from rfl] at h7 h13
 unfold f9
 rw [bind_some hk, if_neg (show ¬ ((0 : Int) != 0) = true by decide), bind_some b1, hb, if_neg (by decide), if_neg (neF hj), bind_some h7]
 unfold eJ
 cases b6 (Ar p js) 0 js.length with
 | some y => rfl
 | none =>
  dsimp only [m7g]
  rw [bind_some h13]
  cases b6 (fgO p l js) 0 p.funcs.length with
  | some y => rfl
  | none => rfl
theorem Do {p : ac} {l : List ad} {js : List ag} : (eJ p l js).what = 0 ↔ (∀ i, i < js.length → oJ (List.getD js i ak) p.locks = true) ∧ ∀ f i, f < p.funcs.length → i < (List.getD p.funcs f []).length → grd p l js f i = true := by
 unfold eJ
 cases hq : b6 (Ar p js) 0 js.length with
 | some y =>
  have h1 := lh hq
  constructor
  ·intro h; exact absurd h (by show ¬ (8 : Int) = 0; decide)
  ·rintro ⟨h2, _⟩
   have h3 := h1.2.2
   unfold Ar at h3
   rw [if_pos (h2 y.1 (by omega))] at h3
   cases h3
 | none =>
  have hr : ∀ i, i < js.length → oJ (List.getD js i ak) p.locks = true := fun i hi => by
   have := gL hq i (Nat.zero_le _) (by omega)
   unfold Ar at this
   split at this
   ·assumption
   ·cases this
  cases hq2 : b6 (fgO p l js) 0 p.funcs.length with
  | some y =>
   have h1 := lh hq2
   constructor
   ·intro h; exact absurd h (by show ¬ (8 : Int) = 0; decide)
   ·rintro ⟨_, h2⟩
    have h3 := h1.2.2
    unfold fgO at h3
    rw [jh fun k _ hk => by unfold Aq; rw [if_pos (h2 y.1 k (by omega) (by omega))]] at h3
    cases h3
  | none =>
   refine ⟨fun _ => ⟨hr, fun f i hf hi => ?_⟩, fun _ => rfl⟩
   have h1 := gL hq2 f (Nat.zero_le _) (by omega)
   unfold fgO at h1
   cases hq3 : b6 (Aq p l js f) 0 (List.getD p.funcs f []).length with
   | some z => rw [hq3] at h1; cases h1
   | none =>
    have h3 := gL hq3 i (Nat.zero_le _) (by omega)
    unfold Aq at h3
    split at h3
    ·assumption
    ·cases h3
theorem w7 (f g : Nat → B8) : ∀ l : List Nat, uR (fun a b => ((BitVec.toNat a : Nat) : Int) == ((BitVec.toNat b : Nat) : Int)) f g l = true ↔ ∀ i ∈ l, f i = g i
 | [] => by simp [uR]
 | i :: l => by
  show ((((BitVec.toNat (f i) : Nat) : Int) == ((BitVec.toNat (g i) : Nat) : Int)) && uR _ f g l) = true ↔ _
  rw [Bool.and_eq_true, w7 f g l, beq_iff_eq, Int.ofNat_inj, BitVec.toNat_inj]
  simp
theorem mc (f g : Nat → B8) : uR (fun a b => ((BitVec.toNat a : Nat) : Int) == ((BitVec.toNat b : Nat) : Int)) f g (List.range 32) = true ↔ ∀ i, i < 32 → f i = g i := by
 rw [w7]; simp
instance sameDec (f g : Nat → B8) : Decidable (∀ i, i < 32 → f i = g i) := decidable_of_iff _ (mc f g)
theorem Dp (t : List B8) : d9 (fun _ => 0#8) 0 32 (iE t) = iE t := by
 funext i
 unfold d9 iE
 by_cases hi : i < 32
 ·rw [if_pos (by omega), if_pos hi, Nat.sub_zero, if_pos hi]
 ·rw [if_neg (by omega), if_neg hi]
def orF (a b : ax) : ax := if a.what = 0 then b else a
def r54 (a : ax) : b7 := if a.what = 0 then .x1 else .x0 a.func a.node a.what 0
def r53 (a : ax) : b9 := if a.what = 0 then .x1 else .x0 a.func a.node a.what 0
def r52 (a : ax) : ca := if a.what = 0 then .x1 else .x0 a.func a.node a.what 0
def r51 (a : ax) : cb := if a.what = 0 then .x1 else .x0 a.func a.node a.what 0
def r50 (a : ax) : cM := if a.what = 0 then .x1 else .x0 a.func a.node a.what 0
theorem Dq (p : ac) (hg : bw p) (hk : ay p = some (0, 0, 0)) (c : aC) (hs : Shp p c.sections) (hj : (c.justs.length : Int) = p.globals) : fv p.globals p.locks p.slots p.funcs c.digest c.sections c.justs 0 0 0 = some (r54 (eJ p c.sections c.justs)) := by
 unfold fv lR
 rw [bind_some (show (bind (f9 (ac.mk p.globals p.locks p.slots p.funcs) (aC.mk c.digest c.sections c.justs).sections (aC.mk c.digest c.sections c.justs).justs) fun v1 => some (v1.1, v1.2)) = some (eJ p c.sections c.justs, 0) by rw [show f9 (ac.mk p.globals p.locks p.slots p.funcs) (aC.mk c.digest c.sections c.justs).sections (aC.mk c.digest c.sections c.justs).justs = some (eJ p c.sections c.justs, 0) from Au p hg hk c.sections hs c.justs hj]; rfl)]
 dsimp only
 rw [if_neg (by decide)]
 unfold r54
 by_cases h : (eJ p c.sections c.justs).what = 0
 ·rw [if_neg (neF h), if_pos h]; rfl
 ·rw [if_pos (neT h), if_neg h]
theorem Dr (p : ac) (hg : bw p) (hk : ay p = some (0, 0, 0)) (c : aC) (hs : Shp p c.sections) (hj : (c.justs.length : Int) = p.globals) (a : ax) (ha : dT p c.sections = some (a, 0)) : fw p.globals p.locks p.slots p.funcs c.digest c.sections c.justs 0 0 0 = some (r53 (orF a (eJ p c.sections c.justs))) := by
 unfold fw
 rw [bind_some (show kZ (ac.mk p.globals p.locks p.slots p.funcs) (aC.mk c.digest c.sections c.justs) = some (a, 0) by unfold kZ; rw [show dT _ _ = some (a, 0) from ha]; rfl)]
 dsimp only
 rw [if_neg (by decide)]
 unfold r53 orF
 by_cases h : a.what = 0
 ·rw [if_neg (neF h), if_pos h, bind_some (Dq p hg hk c hs hj)]
  unfold r54
  by_cases h2 : (eJ p c.sections c.justs).what = 0
  ·rw [if_pos h2, if_pos h2]
  ·rw [if_neg h2, if_neg h2]
 ·rw [if_pos (neT h), if_neg h, if_neg h]
theorem Ds (p : ac) (hg : bw p) (hk : ay p = some (0, 0, 0)) (c : aC) (hs : Shp p c.sections) (hj : (c.justs.length : Int) = p.globals) (b a : ax) (hb : dE p c.sections = some (b, 0)) (ha : dT p c.sections = some (a, 0)) : fx p.globals p.locks p.slots p.funcs c.digest c.sections c.justs 0 0 0 = some (r52 (orF b (orF a (eJ p c.sections c.justs)))) := by
 unfold fx
 rw [bind_some (show kX (ac.mk p.globals p.locks p.slots p.funcs) (aC.mk c.digest c.sections c.justs) = some (b, 0) by unfold kX; rw [show dE _ _ = some (b, 0) from hb]; rfl)]
 dsimp only
 rw [if_neg (by decide)]
 unfold r52
 by_cases h : b.what = 0
 ·rw [if_neg (neF h), show orF b (orF a (eJ p c.sections c.justs)) = orF a (eJ p c.sections c.justs) from if_pos h, bind_some (Dr p hg hk c hs hj a ha)]
  unfold r53
  by_cases h2 : (orF a (eJ p c.sections c.justs)).what = 0
  ·rw [if_pos h2, if_pos h2]
  ·rw [if_neg h2, if_neg h2]
 ·rw [if_pos (neT h), show orF b (orF a (eJ p c.sections c.justs)) = b from if_neg h, if_neg h]
theorem Av (p : ac) (hg : bw p) (hk : ay p = some (0, 0, 0)) (c : aC) : ij p c = some (if (∀ i, i < 32 → iE (gc p) i = c.digest i) then ⟨0, 0, 0⟩ else ⟨-1, -1, 9⟩, 0) := by
 unfold ij
 rw [bind_some (mb hg hk)]
 dsimp only
 rw [if_neg (by decide), Dp]
 by_cases h : ∀ i, i < 32 → iE (gc p) i = c.digest i
 ·rw [(mc _ _).2 h, if_neg (by decide), if_pos h]
 ·rw [if_pos (by
   cases hv : uR (fun a b => ((BitVec.toNat a : Nat) : Int) == ((BitVec.toNat b : Nat) : Int)) (iE (gc p)) c.digest (List.range 32) with
   | true => exact absurd ((mc _ _).1 hv) h
   | false => rfl), if_neg h]
  rfl
def iF (p : ac) (c : aC) (b a : ax) : ax :=
 if ∀ i, i < 32 → iE (gc p) i = c.digest i then orF b (orF a (eJ p c.sections c.justs)) else ⟨-1, -1, 9⟩
theorem Dt (p : ac) (hg : bw p) (hk : ay p = some (0, 0, 0)) (c : aC) (hs : Shp p c.sections) (hj : (c.justs.length : Int) = p.globals) (b a : ax) (hb : dE p c.sections = some (b, 0)) (ha : dT p c.sections = some (a, 0)) : fy p.globals p.locks p.slots p.funcs c.digest c.sections c.justs 0 0 0 = some (r51 (iF p c b a)) := by
 unfold fy
 rw [bind_some (show ij (ac.mk p.globals p.locks p.slots p.funcs) (aC.mk c.digest c.sections c.justs) = _ from Av p hg hk c)]
 dsimp only
 rw [if_neg (by decide)]
 unfold iF
 by_cases h : ∀ i, i < 32 → iE (gc p) i = c.digest i
 ·rw [if_pos h, if_pos h, if_neg (by decide), bind_some (Ds p hg hk c hs hj b a hb ha)]
  unfold r52 r51
  by_cases h2 : (orF b (orF a (eJ p c.sections c.justs))).what = 0
  ·rw [if_pos h2, if_pos h2]
  ·rw [if_neg h2, if_neg h2]
 ·rw [if_neg h, if_neg h, if_pos (by decide)]; rfl
theorem Aw (p : ac) (hg : bw p) (hk : ay p = some (0, 0, 0)) (c : aC) (hs : Shp p c.sections) (hj : (c.justs.length : Int) = p.globals) (b a : ax) (hb : dE p c.sections = some (b, 0)) (ha : dT p c.sections = some (a, 0)) : jW p c = some (if (iF p c b a).what = 0 then ⟨0, 0, 0⟩ else iF p c b a, 0) := by
 have hn := hg.funcs.2
 obtain ⟨q, q1, _, q2⟩ := jg p c.sections (by omega)
 have hq := q2.2 hs
 have hsh : jT (ac.mk p.globals p.locks p.slots p.funcs) (aC.mk c.digest c.sections c.justs) = some (⟨0, 0, 0⟩, 0) := by
  unfold jT
  rw [bind_some (show eF (ac.mk p.globals p.locks p.slots p.funcs) (aC.mk c.digest c.sections c.justs).sections = some q from q1), hq, if_neg (by decide), if_neg (neF hj)]
 have h5 : gl p.globals p.locks p.slots p.funcs c.digest c.sections c.justs 0 0 0 = some (r50 (iF p c b a)) := by
  unfold gl
  rw [bind_some hsh]
  dsimp only
  rw [if_neg (by decide), if_neg (by decide), bind_some (Dt p hg hk c hs hj b a hb ha)]
  unfold r51 r50
  by_cases h2 : (iF p c b a).what = 0
  ·rw [if_pos h2, if_pos h2]
  ·rw [if_neg h2, if_neg h2]
 unfold jW
 rw [bind_some (mb hg hk)]
 dsimp only
 rw [if_neg (by decide), bind_some h5]
 unfold r50
 by_cases h2 : (iF p c b a).what = 0
 ·rw [if_pos h2, if_pos h2]
 ·rw [if_neg h2, if_neg h2]
theorem xQ (p : ac) (hg : bw p) (hk : ay p = some (0, 0, 0)) (c : aC) (hs : Shp p c.sections) (hj : (c.justs.length : Int) = p.globals) (b a : ax) (hb : dE p c.sections = some (b, 0)) (ha : dT p c.sections = some (a, 0)) : cm p c = some ((iF p c b a).what == 0) := by
 unfold cm
 rw [bind_some (Aw p hg hk c hs hj b a hb ha)]
 dsimp only
 rw [if_pos (by decide)]
 by_cases h2 : (iF p c b a).what = 0
 ·rw [if_pos h2, h2]
 ·rw [if_neg h2]
theorem CE (p : ac) (c : aC) (b a : ax) : (iF p c b a).what = 0 ↔ (∀ i, i < 32 → iE (gc p) i = c.digest i) ∧ b.what = 0 ∧ a.what = 0 ∧ (eJ p c.sections c.justs).what = 0 := by
 unfold iF orF
 by_cases h : ∀ i, i < 32 → iE (gc p) i = c.digest i
 ·rw [if_pos h]
  by_cases hb : b.what = 0
  ·rw [if_pos hb]
   by_cases ha : a.what = 0
   ·rw [if_pos ha]; exact ⟨fun x => ⟨h, hb, ha, x⟩, fun x => x.2.2.2⟩
   ·rw [if_neg ha]; exact ⟨fun x => absurd x ha, fun x => absurd x.2.2.1 ha⟩
  ·rw [if_neg hb]; exact ⟨fun x => absurd x hb, fun x => absurd x.2.1 hb⟩
 ·rw [if_neg h]
  exact ⟨fun x => absurd x (by decide), fun x => absurd x.1 h⟩
abbrev l0 : List ad := [⟨0#32, 0#32, [0#32], 0#32, 0#32, [0#32]⟩]
theorem FY (x : aa) : iT x = some (ofT x) := by
 unfold iT ofT
 by_cases h : x.kind = 1
 ·rw [if_pos (eqT h), if_pos (.inl h), bind_some (fc _)]
 ·rw [if_neg (eqF h)]
  by_cases h2 : x.kind = 2
  ·rw [if_pos (eqT h2), if_pos (.inr h2), bind_some (fc _)]
  ·rw [if_neg (eqF h2), if_neg (fun h3 => h3.elim h h2)]
theorem ui (p : ac) (hg : bw p) (f : Nat) (hf : f < p.funcs.length) (x1 : List Int) (x7 x8 : Int) : ∀ (m i : Nat) (o : List W32), i + m = (List.getD p.funcs f []).length → o.length = p.funcs.length → ∃ o', bF o x1 p.globals p.locks p.slots p.funcs (f : Int) x7 x8 (List.getD p.funcs f []) ((List.getD p.funcs f []).length : Int) (i : Int) = some o' ∧ o'.length = p.funcs.length ∧ (∀ g, g ≠ f → List.getD o' g 0#32 = List.getD o g 0#32) ∧
  ∀ b, (List.getD o' f 0#32).getLsbD b = true ↔ (List.getD o f 0#32).getLsbD b = true ∨ ∃ j, i ≤ j ∧ j < (List.getD p.funcs f []).length ∧ (((List.getD (List.getD p.funcs f []) j ab).kind = 7 ∧ (List.getD o (List.getD (List.getD p.funcs f []) j ab).arg.toNat 0#32).getLsbD b = true) ∨ (ofT (List.getD (List.getD p.funcs f []) j ab)).getLsbD b = true)
 | 0, i, o, h, ho => by
  rw [bF, iN (by omega)]
  exact ⟨o, rfl, ho, fun g _ => rfl, fun b => ⟨.inl, fun h => h.elim (fun x => x) fun ⟨j, h1, h2, _⟩ => by omega⟩⟩
 | m + 1, i, o, h, ho => by
  have hle := hg.le f
  rw [bF, iP (by omega), iP (by omega), iP (by omega), Int.toNat_natCast i, inc i (by omega)]
  have fin : ∀ (y : W32), (∀ b, y.getLsbD b = true ↔ (((List.getD (List.getD p.funcs f []) i ab).kind = 7 ∧ (List.getD o (List.getD (List.getD p.funcs f []) i ab).arg.toNat 0#32).getLsbD b = true) ∨ (ofT (List.getD (List.getD p.funcs f []) i ab)).getLsbD b = true)) →
    ∃ o', bF (o.set f (List.getD o f 0#32 ||| y)) x1 p.globals p.locks p.slots p.funcs (f : Int) x7 x8 (List.getD p.funcs f []) ((List.getD p.funcs f []).length : Int) ((i + 1 : Nat) : Int) = some o' ∧ o'.length = p.funcs.length ∧ (∀ g, g ≠ f → List.getD o' g 0#32 = List.getD o g 0#32) ∧
    ∀ b, (List.getD o' f 0#32).getLsbD b = true ↔ (List.getD o f 0#32).getLsbD b = true ∨ ∃ j, i ≤ j ∧ j < (List.getD p.funcs f []).length ∧ (((List.getD (List.getD p.funcs f []) j ab).kind = 7 ∧ (List.getD o (List.getD (List.getD p.funcs f []) j ab).arg.toNat 0#32).getLsbD b = true) ∨ (ofT (List.getD (List.getD p.funcs f []) j ab)).getLsbD b = true) := by
   intro y hy
   obtain ⟨o', q1, q2, q3, q4⟩ := ui p hg f hf x1 x7 x8 m (i + 1) (o.set f (List.getD o f 0#32 ||| y)) (by omega) (by simpa using ho)
   refine ⟨o', q1, q2, fun g hgf => by rw [q3 g hgf, cr _ _ _ _ (by omega), if_neg hgf], fun b => ?_⟩
   rw [q4, cr _ _ _ _ (by omega), if_pos rfl, BitVec.getLsbD_or, Bool.or_eq_true, hy]
   have hsame : ∀ j, j < (List.getD p.funcs f []).length → (List.getD (List.getD p.funcs f []) j ab).kind = 7 → List.getD (o.set f (List.getD o f 0#32 ||| y)) (List.getD (List.getD p.funcs f []) j ab).arg.toNat 0#32 = List.getD o (List.getD (List.getD p.funcs f []) j ab).arg.toNat 0#32 := fun j hj hk => by
    rw [cr _ _ _ _ (by omega), if_neg]
    intro e
    have hc := hg.calls f j hf hj hk
    exact hg.acyc f j hf hj ⟨hk, f, by omega, .refl _⟩
   constructor
   ·rintro ((h1 | h1) | ⟨j, h1, h2, h3⟩)
    ·exact .inl h1
    ·exact .inr ⟨i, Nat.le_refl _, by omega, h1⟩
    ·refine .inr ⟨j, by omega, h2, h3.imp (fun h4 => ⟨h4.1, ?_⟩) fun x => x⟩
     rw [← hsame j h2 h4.1]; exact h4.2
   ·rintro (h1 | ⟨j, h1, h2, h3⟩)
    ·exact .inl (.inl h1)
    ·rcases Nat.eq_or_lt_of_le h1 with rfl | h5
     ·exact .inl (.inr h3)
     ·refine .inr ⟨j, h5, h2, h3.imp (fun h4 => ⟨h4.1, ?_⟩) fun x => x⟩
      rw [hsame j h2 h4.1]; exact h4.2
  by_cases hk : (List.getD (List.getD p.funcs f []) i ab).kind = 7
  ·have hc := hg.calls f i hf (by omega) hk
   rw [if_pos (eqT hk), iP (by omega), iP (by omega), if_pos (decide_eq_true hc.1), iP (by omega), Int.toNat_natCast f]
   exact fin _ fun b => by rw [GH hk]; simp only [hk, true_and, BitVec.getLsbD_zero, Bool.false_eq_true, or_false]
  ·rw [if_neg (eqF hk), iP (by omega), iP (by omega), bind_some (FY _), Int.toNat_natCast f]
   exact fin _ fun b => by simp only [hk, false_and, false_or]
theorem uj (p : ac) (hg : bw p) (out : List Int) (ht : DN p.funcs out) : ∀ (m k : Nat) (o : List W32), k + m = out.length → o.length = p.funcs.length → (∀ f : Nat, (f : Int) ∈ out.take k → ∀ b, (List.getD o f 0#32).getLsbD b = true ↔ May p.funcs ofT f b) → (∀ f : Nat, (f : Int) ∉ out.take k → List.getD o f 0#32 = 0#32) →
  ∃ o', cJ o out p.globals p.locks p.slots p.funcs (out.length : Int) (k : Int) = some o' ∧ o'.length = p.funcs.length ∧ ∀ f : Nat, (f : Int) ∈ out → ∀ b, (List.getD o' f 0#32).getLsbD b = true ↔ May p.funcs ofT f b
 | 0, k, o, h, ho, h1, h2 => by
  rw [cJ, iN (by omega)]
  rw [List.take_of_length_le (by omega)] at h1
  exact ⟨o, rfl, ho, h1⟩
 | m + 1, k, o, h, ho, h1, h2 => by
  have hn := hg.funcs.2
  have hol : out.length ≤ p.funcs.length := pW _ _ ht.nd ht.rng
  have hlt : k < out.length := by omega
  have hgk : List.getD out k 0 = out[k] := by simp [List.getD, hlt]
  have hr := ht.rng _ (List.getElem_mem hlt)
  obtain ⟨f, hf⟩ : ∃ f : Nat, out[k] = (f : Int) := ⟨out[k].toNat, by omega⟩
  rw [hf] at hr
  have hgk' := hgk.trans hf
  rw [cJ, iP (by omega), iP (by omega), iP (by omega), Int.toNat_natCast k, hgk', iP (by omega), iP (by omega), Int.toNat_natCast f, inc k (by omega)]
  obtain ⟨o1, q1, q2, q3, q4⟩ := ui p hg f (by omega) out (out.length : Int) (k : Int) (List.getD p.funcs f []).length 0 o (by omega) ho
  rw [show ((0 : Nat) : Int) = 0 from rfl] at q1
  rw [bind_some q1]
  have htk : out.take (k + 1) = out.take k ++ [(f : Int)] := by rw [← List.take_append_getElem hlt, hf]
  have hnew : (f : Int) ∉ out.take k := fun hin => by
   obtain ⟨i, i1, i2, i3⟩ := gX hin
   have e1 : out[i] = out[k] := by
    rw [hf, ← i3]; simp [List.getD, i2]
   have := (List.getElem_inj ht.nd).1 e1
   omega
  refine uj p hg out ht m (k + 1) o1 (by omega) q2 (fun g hgm b => ?_) fun g hgm => ?_
  ·rw [htk, List.mem_append, List.mem_singleton] at hgm
   by_cases hgf : g = f
   ·subst hgf
    rw [q4, h2 g hnew]
    simp only [BitVec.getLsbD_zero, Bool.false_eq_true, false_or]
    constructor
    ·rintro ⟨j, _, j2, ⟨j3, j4⟩ | j3⟩
     ·have hc := hg.calls g j (by omega) j2 j3
      obtain ⟨c, hcc⟩ : ∃ c : Nat, (List.getD (List.getD p.funcs g []) j ab).arg = (c : Int) := ⟨_, (Int.toNat_of_nonneg hc.1).symm⟩
      rw [hcc, Int.toNat_natCast] at j4
      have e : Edge p.funcs g c := ⟨j, j2, j3, hcc⟩
      have hct := ht.top k hlt c (by rw [hgk', Int.toNat_natCast]; exact e)
      obtain ⟨x, hx1, hx2⟩ := (h1 c hct b).1 j4
      exact ⟨x, .step _ _ _ e hx1, hx2⟩
     ·exact ⟨g, .refl _, j, j2, j3⟩
    ·rintro ⟨x, hx1, hx2⟩
     cases hx1 with
     | refl _ => obtain ⟨j, j1, j2⟩ := hx2; exact ⟨j, Nat.zero_le _, j1, .inr j2⟩
     | step _ c _ e hp =>
      obtain ⟨j, j1, j2, j3⟩ := e
      have hct := ht.top k hlt c (by rw [hgk', Int.toNat_natCast]; exact ⟨j, j1, j2, j3⟩)
      refine ⟨j, Nat.zero_le _, j1, .inl ⟨j2, ?_⟩⟩
      rw [j3, Int.toNat_natCast]
      exact (h1 c hct b).2 ⟨x, hp, hx2⟩
   ·rw [q3 g hgf]
    exact h1 g (hgm.resolve_right (by omega)) b
  ·rw [htk, List.mem_append, List.mem_singleton, not_or] at hgm
   rw [q3 g (by omega)]
   exact h2 g hgm.1
theorem Ax (p : ac) (hg : bw p) (hk : ay p = some (0, 0, 0)) : ∃ o, gU p = some (0, o) ∧ o.length = p.funcs.length ∧ ∀ f, f < p.funcs.length → ∀ b, (List.getD o f 0#32).getLsbD b = true ↔ May p.funcs ofT f b := by
 have hn := hg.funcs.2
 obtain ⟨out, q1, q2⟩ := lk p hg hk
 unfold gU
 rw [bind_some q1, if_neg (show ¬ ((0 : Int) != 0) = true by decide), iP (by omega), if_pos (decide_eq_true (by simp only [aF]; omega)), Int.toNat_natCast]
 obtain ⟨o, g1, g2, g3⟩ := uj p hg out q2 out.length 0 (List.replicate p.funcs.length 0#32) (by omega) (by simp) (fun f hf => by simp at hf) (fun f _ => by
  simp only [List.getD, List.getElem?_replicate]
  split <;> rfl)
 rw [show ((0 : Nat) : Int) = 0 from rfl] at g1
 rw [bind_some g1]
 exact ⟨o, rfl, g2, fun f hf => g3 f (q2.all f hf)⟩
theorem Ay (p : ac) (hg : bw p) (hk : ay p = some (0, 0, 0)) : ∃ o, iU p = some (0, o) ∧ o.length = p.funcs.length ∧ ∀ f, f < p.funcs.length → ∀ b, (List.getD o f 0#32).getLsbD b = true ↔ May p.funcs ofT f b := by
 obtain ⟨o, q1, q2⟩ := Ax p hg hk
 unfold iU
 rw [bind_some q1]
 exact ⟨o, rfl, q2⟩
def oK (x : aa) : W32 := if x.kind = 3 ∨ x.kind = 4 then one x.arg else 0#32
theorem FZ {x : aa} (h : x.kind = 7) : oK x = 0#32 := by unfold oK; rw [if_neg (by omega)]
theorem EQ (o : List W32) (f : Nat) (h : f < o.length) : o.set f (List.getD o f 0#32 ||| 0#32) = o := by
 apply List.ext_getElem
 ·simp
 ·intro i h1 h2
  rw [List.getElem_set]
  split
  ·rename_i e
   subst e
   simp [List.getD, h]
  ·rfl
theorem Bp (p : ac) (hg : bw p) (f : Nat) (hf : f < p.funcs.length) (x1 : List Int) (x7 x8 : Int) : ∀ (m i : Nat) (o : List W32), i + m = (List.getD p.funcs f []).length → o.length = p.funcs.length → ∃ o', bU o x1 p.globals p.locks p.slots p.funcs (f : Int) x7 x8 (List.getD p.funcs f []) ((List.getD p.funcs f []).length : Int) (i : Int) = some o' ∧ o'.length = p.funcs.length ∧ (∀ g, g ≠ f → List.getD o' g 0#32 = List.getD o g 0#32) ∧
  ∀ b, (List.getD o' f 0#32).getLsbD b = true ↔ (List.getD o f 0#32).getLsbD b = true ∨ ∃ j, i ≤ j ∧ j < (List.getD p.funcs f []).length ∧ (((List.getD (List.getD p.funcs f []) j ab).kind = 7 ∧ (List.getD o (List.getD (List.getD p.funcs f []) j ab).arg.toNat 0#32).getLsbD b = true) ∨ (oK (List.getD (List.getD p.funcs f []) j ab)).getLsbD b = true)
 | 0, i, o, h, ho => by
  rw [bU, iN (by omega)]
  exact ⟨o, rfl, ho, fun g _ => rfl, fun b => ⟨.inl, fun h => h.elim (fun x => x) fun ⟨j, h1, h2, _⟩ => by omega⟩⟩
 | m + 1, i, o, h, ho => by
  have hle := hg.le f
  rw [bU, iP (by omega), iP (by omega), iP (by omega), Int.toNat_natCast i, inc i (by omega)]
  have fin : ∀ (y : W32), (∀ b, y.getLsbD b = true ↔ (((List.getD (List.getD p.funcs f []) i ab).kind = 7 ∧ (List.getD o (List.getD (List.getD p.funcs f []) i ab).arg.toNat 0#32).getLsbD b = true) ∨ (oK (List.getD (List.getD p.funcs f []) i ab)).getLsbD b = true)) →
    ∃ o', bU (o.set f (List.getD o f 0#32 ||| y)) x1 p.globals p.locks p.slots p.funcs (f : Int) x7 x8 (List.getD p.funcs f []) ((List.getD p.funcs f []).length : Int) ((i + 1 : Nat) : Int) = some o' ∧ o'.length = p.funcs.length ∧ (∀ g, g ≠ f → List.getD o' g 0#32 = List.getD o g 0#32) ∧
    ∀ b, (List.getD o' f 0#32).getLsbD b = true ↔ (List.getD o f 0#32).getLsbD b = true ∨ ∃ j, i ≤ j ∧ j < (List.getD p.funcs f []).length ∧ (((List.getD (List.getD p.funcs f []) j ab).kind = 7 ∧ (List.getD o (List.getD (List.getD p.funcs f []) j ab).arg.toNat 0#32).getLsbD b = true) ∨ (oK (List.getD (List.getD p.funcs f []) j ab)).getLsbD b = true) := by
   intro y hy
   obtain ⟨o', q1, q2, q3, q4⟩ := Bp p hg f hf x1 x7 x8 m (i + 1) (o.set f (List.getD o f 0#32 ||| y)) (by omega) (by simpa using ho)
   refine ⟨o', q1, q2, fun g hgf => by rw [q3 g hgf, cr _ _ _ _ (by omega), if_neg hgf], fun b => ?_⟩
   rw [q4, cr _ _ _ _ (by omega), if_pos rfl, BitVec.getLsbD_or, Bool.or_eq_true, hy]
   have hsame : ∀ j, j < (List.getD p.funcs f []).length → (List.getD (List.getD p.funcs f []) j ab).kind = 7 → List.getD (o.set f (List.getD o f 0#32 ||| y)) (List.getD (List.getD p.funcs f []) j ab).arg.toNat 0#32 = List.getD o (List.getD (List.getD p.funcs f []) j ab).arg.toNat 0#32 := fun j hj hk => by
    rw [cr _ _ _ _ (by omega), if_neg]
    intro e
    have hc := hg.calls f j hf hj hk
    exact hg.acyc f j hf hj ⟨hk, f, by omega, .refl _⟩
   constructor
   ·rintro ((h1 | h1) | ⟨j, h1, h2, h3⟩)
    ·exact .inl h1
    ·exact .inr ⟨i, Nat.le_refl _, by omega, h1⟩
    ·refine .inr ⟨j, by omega, h2, h3.imp (fun h4 => ⟨h4.1, ?_⟩) fun x => x⟩
     rw [← hsame j h2 h4.1]; exact h4.2
   ·rintro (h1 | ⟨j, h1, h2, h3⟩)
    ·exact .inl (.inl h1)
    ·rcases Nat.eq_or_lt_of_le h1 with rfl | h5
     ·exact .inl (.inr h3)
     ·refine .inr ⟨j, h5, h2, h3.imp (fun h4 => ⟨h4.1, ?_⟩) fun x => x⟩
      rw [hsame j h2 h4.1]; exact h4.2
  by_cases h3 : (List.getD (List.getD p.funcs f []) i ab).kind = 3
  ·rw [if_pos (eqT h3), iP (by omega), iP (by omega), bind_some (fc _), Int.toNat_natCast f]
   exact fin _ fun b => by
    rw [show oK (List.getD (List.getD p.funcs f []) i ab) = one (List.getD (List.getD p.funcs f []) i ab).arg from if_pos (.inl h3)]
    exact ⟨.inr, fun h => h.elim (fun h => absurd (h3.symm.trans h.1) (by decide)) id⟩
  rw [if_neg (eqF h3)]
  by_cases h4 : (List.getD (List.getD p.funcs f []) i ab).kind = 4
  ·rw [if_pos (eqT h4), iP (by omega), iP (by omega), bind_some (fc _), Int.toNat_natCast f]
   exact fin _ fun b => by
    rw [show oK (List.getD (List.getD p.funcs f []) i ab) = one (List.getD (List.getD p.funcs f []) i ab).arg from if_pos (.inr h4)]
    exact ⟨.inr, fun h => h.elim (fun h => absurd (h4.symm.trans h.1) (by decide)) id⟩
  rw [if_neg (eqF h4)]
  by_cases hk : (List.getD (List.getD p.funcs f []) i ab).kind = 7
  ·have hc := hg.calls f i hf (by omega) hk
   rw [if_pos (eqT hk), iP (by omega), iP (by omega), if_pos (decide_eq_true hc.1), iP (by omega), Int.toNat_natCast f]
   exact fin _ fun b => by rw [FZ hk]; simp only [hk, true_and, BitVec.getLsbD_zero, Bool.false_eq_true, or_false]
  ·rw [if_neg (eqF hk)]
   have q := fin 0#32 fun b => by
    rw [show oK (List.getD (List.getD p.funcs f []) i ab) = 0#32 from if_neg (fun h => h.elim h3 h4)]
    simp only [hk, false_and, false_or]
   rw [EQ o f (by omega)] at q
   exact q
theorem Bq (p : ac) (hg : bw p) (out : List Int) (ht : DN p.funcs out) : ∀ (m k : Nat) (o : List W32), k + m = out.length → o.length = p.funcs.length → (∀ f : Nat, (f : Int) ∈ out.take k → ∀ b, (List.getD o f 0#32).getLsbD b = true ↔ May p.funcs oK f b) → (∀ f : Nat, (f : Int) ∉ out.take k → List.getD o f 0#32 = 0#32) →
  ∃ o', ef o out p.globals p.locks p.slots p.funcs (out.length : Int) (k : Int) = some o' ∧ o'.length = p.funcs.length ∧ ∀ f : Nat, (f : Int) ∈ out → ∀ b, (List.getD o' f 0#32).getLsbD b = true ↔ May p.funcs oK f b
 | 0, k, o, h, ho, h1, h2 => by
  rw [ef, iN (by omega)]
  rw [List.take_of_length_le (by omega)] at h1
  exact ⟨o, rfl, ho, h1⟩
 | m + 1, k, o, h, ho, h1, h2 => by
  have hn := hg.funcs.2
  have hol : out.length ≤ p.funcs.length := pW _ _ ht.nd ht.rng
  have hlt : k < out.length := by omega
  have hgk : List.getD out k 0 = out[k] := by simp [List.getD, hlt]
  have hr := ht.rng _ (List.getElem_mem hlt)
  obtain ⟨f, hf⟩ : ∃ f : Nat, out[k] = (f : Int) := ⟨out[k].toNat, by omega⟩
  rw [hf] at hr
  have hgk' := hgk.trans hf
  rw [ef, iP (by omega), iP (by omega), iP (by omega), Int.toNat_natCast k, hgk', iP (by omega), iP (by omega), Int.toNat_natCast f, inc k (by omega)]
  obtain ⟨o1, q1, q2, q3, q4⟩ := Bp p hg f (by omega) out (out.length : Int) (k : Int) (List.getD p.funcs f []).length 0 o (by omega) ho
  rw [show ((0 : Nat) : Int) = 0 from rfl] at q1
  rw [bind_some q1]
  have htk : out.take (k + 1) = out.take k ++ [(f : Int)] := by rw [← List.take_append_getElem hlt, hf]
  have hnew : (f : Int) ∉ out.take k := fun hin => by
   obtain ⟨i, i1, i2, i3⟩ := gX hin
   have e1 : out[i] = out[k] := by
    rw [hf, ← i3]; simp [List.getD, i2]
   have := (List.getElem_inj ht.nd).1 e1
   omega
  refine Bq p hg out ht m (k + 1) o1 (by omega) q2 (fun g hgm b => ?_) fun g hgm => ?_
  ·rw [htk, List.mem_append, List.mem_singleton] at hgm
   by_cases hgf : g = f
   ·subst hgf
    rw [q4, h2 g hnew]
    simp only [BitVec.getLsbD_zero, Bool.false_eq_true, false_or]
    constructor
    ·rintro ⟨j, _, j2, ⟨j3, j4⟩ | j3⟩
     ·have hc := hg.calls g j (by omega) j2 j3
      obtain ⟨c, hcc⟩ : ∃ c : Nat, (List.getD (List.getD p.funcs g []) j ab).arg = (c : Int) := ⟨_, (Int.toNat_of_nonneg hc.1).symm⟩
      rw [hcc, Int.toNat_natCast] at j4
      have e : Edge p.funcs g c := ⟨j, j2, j3, hcc⟩
      have hct := ht.top k hlt c (by rw [hgk', Int.toNat_natCast]; exact e)
      obtain ⟨x, hx1, hx2⟩ := (h1 c hct b).1 j4
      exact ⟨x, .step _ _ _ e hx1, hx2⟩
     ·exact ⟨g, .refl _, j, j2, j3⟩
    ·rintro ⟨x, hx1, hx2⟩
     cases hx1 with
     | refl _ => obtain ⟨j, j1, j2⟩ := hx2; exact ⟨j, Nat.zero_le _, j1, .inr j2⟩
     | step _ c _ e hp =>
      obtain ⟨j, j1, j2, j3⟩ := e
      have hct := ht.top k hlt c (by rw [hgk', Int.toNat_natCast]; exact ⟨j, j1, j2, j3⟩)
      refine ⟨j, Nat.zero_le _, j1, .inl ⟨j2, ?_⟩⟩
      rw [j3, Int.toNat_natCast]
      exact (h1 c hct b).2 ⟨x, hp, hx2⟩
   ·rw [q3 g hgf]
    exact h1 g (hgm.resolve_right (by omega)) b
  ·rw [htk, List.mem_append, List.mem_singleton, not_or] at hgm
   rw [q3 g (by omega)]
   exact h2 g hgm.1
theorem Br (p : ac) (hg : bw p) (hk : ay p = some (0, 0, 0)) : ∃ o, jG p = some (0, o) ∧ o.length = p.funcs.length ∧ ∀ f, f < p.funcs.length → ∀ b, (List.getD o f 0#32).getLsbD b = true ↔ May p.funcs oK f b := by
 have hn := hg.funcs.2
 obtain ⟨out, q1, q2⟩ := lk p hg hk
 unfold jG
 rw [bind_some q1, if_neg (show ¬ ((0 : Int) != 0) = true by decide), iP (by omega), if_pos (decide_eq_true (by simp only [aF]; omega)), Int.toNat_natCast]
 obtain ⟨o, g1, g2, g3⟩ := Bq p hg out q2 out.length 0 (List.replicate p.funcs.length 0#32) (by omega) (by simp) (fun f hf => by simp at hf) (fun f _ => by
  simp only [List.getD, List.getElem?_replicate]
  split <;> rfl)
 rw [show ((0 : Nat) : Int) = 0 from rfl] at g1
 rw [bind_some g1]
 exact ⟨o, rfl, g2, fun f hf => g3 f (q2.all f hf)⟩
theorem pT {q : Nat → Bool} : ∀ {m i k : Nat}, i ≤ k → k < i + m → q k = true → (∀ j, i ≤ j → j < k → q j = false) → i4 q i m = some k
 | 0, i, k, h1, h2, _, _ => by omega
 | m + 1, i, k, h1, h2, h3, h4 => by
  unfold i4
  rcases Nat.eq_or_lt_of_le h1 with rfl | h5
  ·rw [if_pos h3]
  ·rw [if_neg (by rw [h4 i (Nat.le_refl _) h5]; decide)]
   exact pT h5 (by omega) h3 fun j h6 h7 => h4 j (by omega) h7
theorem Bt {q : Nat → Bool} : ∀ {m i : Nat}, (∀ j, i ≤ j → j < i + m → q j = false) → i4 q i m = none
 | 0, i, _ => rfl
 | m + 1, i, h => by
  unfold i4
  rw [if_neg (by rw [h i (Nat.le_refl _) (by omega)]; decide)]
  exact Bt fun j h1 h2 => h j (by omega) (by omega)
def gK (q : Nat → Bool) : Nat → Nat → Bool
 | _, 0 => false
 | i, m + 1 => q i || gK q (i + 1) m
theorem im {q : Nat → Bool} : ∀ {m i : Nat}, gK q i m = true ↔ ∃ k, i ≤ k ∧ k < i + m ∧ q k = true
 | 0, i => ⟨fun h => (by cases h), fun ⟨k, h1, h2, _⟩ => by omega⟩
 | m + 1, i => by
  unfold gK
  rw [Bool.or_eq_true, im]
  constructor
  ·rintro (h | ⟨k, h1, h2, h3⟩)
   ·exact ⟨i, Nat.le_refl _, by omega, h⟩
   ·exact ⟨k, by omega, by omega, h3⟩
  ·rintro ⟨k, h1, h2, h3⟩
   rcases Nat.eq_or_lt_of_le h1 with rfl | h4
   ·exact .inl h3
   ·exact .inr ⟨k, h4, by omega, h3⟩
def gm (p : ac) (l : List ad) (g : Int) (f i : Nat) : Bool := (acc (nde p f i) && ((nde p f i).arg == g)) && !(liv l f i == 0#32)
def nl (p : ac) (l : List ad) (g : Int) (f : Nat) : Nat → Nat → List W32
 | _, 0 => []
 | i, m + 1 => (if gm p l g f i = true then [hld l f i] else []) ++ nl p l g f (i + 1) m
def nwB (p : ac) (l : List ad) (g : Int) (f i : Nat) : Bool := gm p l g f i && ((nde p f i).kind == 2)
def nlF (p : ac) (l : List ad) (g : Int) : Nat → Nat → List W32
 | _, 0 => []
 | f, m + 1 => nl p l g f 0 (List.getD p.funcs f []).length ++ nlF p l g (f + 1) m
theorem Az (p : ac) (l : List ad) (g : Int) (f : Nat) : ∀ (m i : Nat), (nl p l g f i m).length ≤ m
 | 0, i => Nat.le_refl _
 | m + 1, i => by
  have := Az p l g f m (i + 1)
  unfold nl
  rw [List.length_append]
  split <;> simp <;> omega
theorem Du (p : ac) (l : List ad) (g : Int) (f : Nat) (y : W32) : ∀ (m i : Nat), y ∈ nl p l g f i m ↔ ∃ k, i ≤ k ∧ k < i + m ∧ gm p l g f k = true ∧ y = hld l f k
 | 0, i => ⟨fun h => (by cases h), fun ⟨k, h1, h2, _⟩ => by omega⟩
 | m + 1, i => by
  unfold nl
  rw [List.mem_append, Du p l g f y m (i + 1)]
  constructor
  ·rintro (h | ⟨k, h1, h2, h3⟩)
   ·split at h
    ·rename_i hn
     exact ⟨i, Nat.le_refl _, by omega, hn, List.mem_singleton.1 h⟩
    ·cases h
   ·exact ⟨k, by omega, by omega, h3⟩
  ·rintro ⟨k, h1, h2, h3, h4⟩
   rcases Nat.eq_or_lt_of_le h1 with rfl | h5
   ·rw [if_pos h3, h4]; exact .inl (List.mem_singleton.2 rfl)
   ·exact .inr ⟨k, h5, by omega, h3, h4⟩
theorem Bu (p : ac) (l : List ad) (g : Int) (y : W32) : ∀ (m f : Nat), y ∈ nlF p l g f m ↔ ∃ h, f ≤ h ∧ h < f + m ∧ ∃ k, k < (List.getD p.funcs h []).length ∧ gm p l g h k = true ∧ y = hld l h k
 | 0, f => ⟨fun h => (by cases h), fun ⟨k, h1, h2, _⟩ => by omega⟩
 | m + 1, f => by
  unfold nlF
  rw [List.mem_append, Du, Bu p l g y m (f + 1)]
  constructor
  ·rintro (⟨k, _, h2, h3⟩ | ⟨k, h1, h2, h3⟩)
   ·exact ⟨f, Nat.le_refl _, by omega, k, by omega, h3⟩
   ·exact ⟨k, by omega, by omega, h3⟩
  ·rintro ⟨h, h1, h2, k, h3, h4⟩
   rcases Nat.eq_or_lt_of_le h1 with rfl | h5
   ·exact .inl ⟨k, Nat.zero_le _, by omega, h4⟩
   ·exact .inr ⟨h, h5, by omega, k, h3, h4⟩
theorem zn (p : ac) (hg : bw p) (l : List ad) (hs : Shp p l) (g : Int) (f : Nat) (hf : f < p.funcs.length) (x9 x10 : Int) : ∀ (m i : Nat) (t : List W32) (w : Bool), i + m = (List.getD p.funcs f []).length → t.length + m ≤ 100000 →
  a8 t p.globals p.locks p.slots p.funcs l g w (f : Int) x9 x10 (List.getD p.funcs f []) ((List.getD p.funcs f []).length : Int) (i : Int) = some (t ++ nl p l g f i m, w || gK (nwB p l g f) i m)
 | 0, i, t, w, h, ht => by
  rw [a8, iN (by omega)]
  simp [nl, gK]
 | m + 1, i, t, w, h, ht => by
  have hle := hg.le f
  have hl := hs.1
  have ih := fun t w => zn p hg l hs g f hf x9 x10 m (i + 1) t w (by omega)
  have h1 : (List.getD l f ae).held.length = (List.getD p.funcs f []).length := (hs.2 f hf).1
  have h2 : (List.getD l f ae).live.length = (List.getD p.funcs f []).length := (hs.2 f hf).2
  have hsolo : gh (List.getD l f ae) (i : Int) = some (liv l f i == 0#32) := by
   unfold gh
   rw [iP (by omega), iP (by omega), iP (by omega), iP (by omega), Int.toNat_natCast i]
  have skip : gm p l g f i = false → some (t ++ nl p l g f (i + 1) m, w || gK (nwB p l g f) (i + 1) m) = some (t ++ nl p l g f i (m + 1), w || gK (nwB p l g f) i (m + 1)) := fun hn => by
   rw [show nl p l g f i (m + 1) = nl p l g f (i + 1) m by unfold nl; rw [if_neg (by rw [hn]; decide)]; cases m <;> rfl, show gK (nwB p l g f) i (m + 1) = gK (nwB p l g f) (i + 1) m by
    rw [show gK (nwB p l g f) i (m + 1) = (nwB p l g f i || gK (nwB p l g f) (i + 1) m) from rfl]
    unfold nwB
    rw [hn]
    rfl]
  rw [a8, iP (by omega), iP (by omega), iP (by omega), Int.toNat_natCast i, bind_some (ri _), inc i (by omega)]
  cases ha : acc (nde p f i) with
  | false =>
   dsimp only
   rw [if_pos (by decide), ih t w (by omega)]
   exact skip (by unfold gm; rw [ha]; rfl)
  | true =>
   dsimp only
   rw [if_neg (by decide)]
   by_cases hgg : (nde p f i).arg = g
   ·rw [if_neg (neF hgg), iP (by omega), iP (by omega), Int.toNat_natCast f, bind_some hsolo]
    cases h0 : (liv l f i == 0#32) with
    | true =>
     rw [if_pos rfl, ih t w (by omega)]
     exact skip (by unfold gm; rw [h0]; simp)
    | false =>
     have hn : gm p l g f i = true := by unfold gm; rw [h0, ha, eqT hgg]; rfl
     rw [if_neg (by decide), iN (by omega), iP (by omega), if_pos (Nat.ble_eq_true_of_le (by simp only [List.length_singleton, aF]; omega))]
     have e1 : nl p l g f i (m + 1) = [hld l f i] ++ nl p l g f (i + 1) m := by
      rw [show nl p l g f i (m + 1) = (if gm p l g f i = true then [hld l f i] else []) ++ nl p l g f (i + 1) m from rfl, if_pos hn]
     have e2 : gK (nwB p l g f) i (m + 1) = ((nde p f i).kind == 2 || gK (nwB p l g f) (i + 1) m) := by
      rw [show gK (nwB p l g f) i (m + 1) = (nwB p l g f i || gK (nwB p l g f) (i + 1) m) from rfl]
      unfold nwB
      rw [hn, Bool.true_and]
     rw [e1, e2, ← List.append_assoc]
     cases w with
     | true => rw [if_pos rfl, ih _ true (by simp; omega)]; rfl
     | false => rw [if_neg (by decide), ih _ _ (by simp; omega)]; rfl
   ·rw [if_pos (neT hgg), ih t w (by omega)]
    exact skip (by unfold gm; rw [show ((nde p f i).arg == g) = false by simpa using hgg]; simp)
theorem Bv (p : ac) (hg : bw p) (l : List ad) (g : Int) : ∀ (m f : Nat), (nlF p l g f m).length ≤ 64 * m
 | 0, f => Nat.le_refl _
 | m + 1, f => by
  have h1 := Az p l g f (List.getD p.funcs f []).length 0
  have h2 := Bv p hg l g m (f + 1)
  have h3 := hg.le f
  unfold nlF
  rw [List.length_append]
  omega
theorem zo (p : ac) (hg : bw p) (l : List ad) (hs : Shp p l) (g : Int) : ∀ (m f : Nat) (t : List W32) (w : Bool), f + m = p.funcs.length → t.length + 64 * m ≤ 50000 →
  cU t p.globals p.locks p.slots p.funcs l g w (p.funcs.length : Int) (f : Int) = some (t ++ nlF p l g f m, w || gK (fun f => gK (nwB p l g f) 0 (List.getD p.funcs f []).length) f m)
 | 0, f, t, w, h, ht => by
  rw [cU, iN (by omega)]
  simp [nlF, gK]
 | m + 1, f, t, w, h, ht => by
  have hn := hg.funcs.2
  have hle := hg.le f
  have h1 := Az p l g f (List.getD p.funcs f []).length 0
  have h7 := zn p hg l hs g f (by omega) (p.funcs.length : Int) (f : Int) (List.getD p.funcs f []).length 0 t w (by omega) (by omega)
  rw [cU, iP (by omega), iP (by omega), iP (by omega), Int.toNat_natCast f, bind_some (show a8 t p.globals p.locks p.slots p.funcs l g w (f : Int) _ _ _ _ 0 = _ from h7), inc f (by omega)]
  dsimp only
  rw [zo p hg l hs g m (f + 1) _ _ (by omega) (by rw [List.length_append]; omega), List.append_assoc, Bool.or_assoc]
  rfl
theorem Bw (l : List W32) (hl : l.length ≤ 100000) : ∀ (m i : Nat) (x : W32), i + m = l.length → ∃ y, dW x l (l.length : Int) (i : Int) = some y ∧ ∀ b, y.getLsbD b = true ↔ x.getLsbD b = true ∧ ∀ k, i ≤ k → k < l.length → (List.getD l k 0#32).getLsbD b = true
 | 0, i, x, h => by
  rw [dW, iN (by omega)]
  exact ⟨x, rfl, fun b => ⟨fun h => ⟨h, fun k h1 h2 => by omega⟩, fun h => h.1⟩⟩
 | m + 1, i, x, h => by
  obtain ⟨y, q1, q2⟩ := Bw l hl m (i + 1) (x &&& List.getD l i 0#32) (by omega)
  refine ⟨y, ?_, fun b => ?_⟩
  ·rw [dW, iP (by omega), iP (by omega), iP (by omega), Int.toNat_natCast i, inc i (by omega)]
   exact q1
  ·rw [q2, BitVec.getLsbD_and, Bool.and_eq_true]
   constructor
   ·rintro ⟨⟨h1, h2⟩, h3⟩
    refine ⟨h1, fun k h4 h5 => ?_⟩
    rcases Nat.eq_or_lt_of_le h4 with rfl | h6
    ·exact h2
    ·exact h3 k h6 h5
   ·rintro ⟨h1, h2⟩
    exact ⟨⟨h1, h2 i (Nat.le_refl _) (by omega)⟩, fun k h4 h5 => h2 k (by omega) h5⟩
theorem ER (l : List W32) (hl : l.length ≤ 100000) : ∃ y, mV l = some y ∧ ∀ b, b < 32 → (y.getLsbD b = true ↔ ∀ z ∈ l, z.getLsbD b = true) := by
 obtain ⟨y, q1, q2⟩ := Bw l hl l.length 0 4294967295#32 (by omega)
 unfold mV
 rw [bind_some (show dW _ l _ 0 = _ from q1)]
 refine ⟨y, rfl, fun b hb => ?_⟩
 rw [q2]
 constructor
 ·rintro ⟨_, h⟩ z hz
  obtain ⟨k, hk, rfl⟩ := List.mem_iff_getElem.1 hz
  have := h k (Nat.zero_le _) hk
  simpa [List.getD, hk] using this
 ·intro h
  refine ⟨?_, fun k _ hk => h _ ?_⟩
  ·have : ∀ b : Fin 32, (4294967295#32).getLsbD b.val = true := by decide
   exact this ⟨b, hb⟩
  ·have : List.getD l k 0#32 = l[k] := by simp [List.getD, hk]
   rw [this]
   exact List.getElem_mem hk
def rj (p : ac) (l : List ad) (g : Int) (j : ag) (f i : Nat) : Bool := (acc (nde p f i) && ((nde p f i).arg == g)) && !fW j ((nde p f i).kind == 2) (hld l f i) (liv l f i)
def okJ (p : ac) (l : List ad) (g : Int) (j : ag) : Bool := !gK (fun f => gK (rj p l g j f) 0 (List.getD p.funcs f []).length) 0 p.funcs.length
theorem iY {p : ac} {l : List ad} {g : Int} {j : ag} : okJ p l g j = true ↔ ∀ f i, f < p.funcs.length → i < (List.getD p.funcs f []).length → rj p l g j f i = false := by
 unfold okJ
 rw [Bool.not_eq_true', ← Bool.not_eq_true, im]
 constructor
 ·intro h f i hf hi
  cases hb : rj p l g j f i with
  | false => rfl
  | true => exact absurd ⟨f, Nat.zero_le _, (by omega : f < 0 + p.funcs.length), im.2 ⟨i, Nat.zero_le _, (by omega : i < 0 + _), hb⟩⟩ h
 ·rintro h ⟨f, _, hf, h2⟩
  obtain ⟨i, _, hi, h3⟩ := im.1 h2
  rw [h f i (by omega) (by omega)] at h3
  cases h3
def tr (k : Nat) : ag := if k = 0 then ⟨0, 0⟩ else if k = 1 then ⟨1, 0⟩ else ⟨2, ((k - 2 : Nat) : Int)⟩
def gn (p : ac) (l : List ad) (g : Int) : Option Nat := i4 (fun k => okJ p l g (tr k)) 0 (2 + p.locks.toNat)
theorem Bx (p : ac) (l : List ad) (g : Int) (f i : Nat) : rj p l g (tr 0) f i = gm p l g f i := by
 unfold rj gm fW tr
 by_cases h : liv l f i = 0#32
 ·rw [if_pos h, show (liv l f i == 0#32) = true by simpa using h]
 ·rw [if_neg h, show (liv l f i == 0#32) = false by simpa using h]; rfl
theorem By (p : ac) (l : List ad) (g : Int) (f i : Nat) : rj p l g (tr 1) f i = nwB p l g f i := by
 unfold rj nwB gm fW tr
 by_cases h : liv l f i = 0#32
 ·rw [if_pos h, show (liv l f i == 0#32) = true by simpa using h]; simp
 ·rw [if_neg h, show (liv l f i == 0#32) = false by simpa using h]
  simp
theorem Bz (p : ac) (l : List ad) (g : Int) (f i k : Nat) (hk : k < 32) : rj p l g (tr (k + 2)) f i = (gm p l g f i && !(hld l f i).getLsbD k) := by
 have e : tr (k + 2) = ⟨2, (k : Int)⟩ := by unfold tr; rw [if_neg (by omega), if_neg (by omega)]; rfl
 rw [e]
 unfold rj gm fW
 by_cases h : liv l f i = 0#32
 ·rw [if_pos h, show (liv l f i == 0#32) = true by simpa using h]; simp
 ·rw [if_neg h, show (liv l f i == 0#32) = false by simpa using h, if_neg (show ¬ (2 : Int) = 1 by decide), if_pos (show (2 : Int) = 2 from rfl), DR _ hk]
  simp
theorem ES (p : ac) (hg : bw p) (l : List ad) (hs : Shp p l) (g : Int) : jk p l g = some (match gn p l g with | some k => (tr k, true) | none => (⟨0, 0⟩, false)) := by
 have hn := hg.funcs.2
 have hlk := hg.locks
 have hl := hs.1
 have hlen := Bv p hg l g p.funcs.length 0
 have h4 := zo p hg l hs g p.funcs.length 0 [] false (by omega) (by simp; omega)
 rw [List.nil_append, Bool.false_or] at h4
 obtain ⟨y, y1, y2⟩ := ER (nlF p l g 0 p.funcs.length) (by omega)
 have hmem := fun z => Bu p l g z p.funcs.length 0
 have hneeds : jP p l g = some (y, decide (((nlF p l g 0 p.funcs.length).length : Int) > 0), gK (fun f => gK (nwB p l g f) 0 (List.getD p.funcs f []).length) 0 p.funcs.length) := by
  unfold jP
  rw [show (if (l.length : Int) < (p.funcs.length : Int) then (l.length : Int) else (p.funcs.length : Int)) = (p.funcs.length : Int) by split <;> omega, bind_some (show cU [] p.globals p.locks p.slots p.funcs l g false _ 0 = _ from h4), bind_some y1]
 have hall : fN p.locks = some (eo p.locks.toNat) := by
  have := pZ p.locks.toNat (by omega)
  rw [Int.toNat_of_nonneg hlk.1] at this
  exact this
 unfold jk gn
 rw [bind_some hneeds, bind_some hall]
 dsimp only
 by_cases hnone : nlF p l g 0 p.funcs.length = []
 ·have hno : ∀ f i, f < p.funcs.length → i < (List.getD p.funcs f []).length → gm p l g f i = false := fun f i hf hi => by
   cases hb : gm p l g f i with
   | false => rfl
   | true =>
    have := (hmem (hld l f i)).2 ⟨f, Nat.zero_le _, by omega, i, hi, hb, rfl⟩
    rw [hnone] at this
    cases this
  rw [hnone, if_pos (by decide), pT (k := 0) (Nat.le_refl _) (by omega) (iY.2 fun f i hf hi => (Bx p l g f i).trans (hno f i hf hi)) (fun j h1 h2 => by omega)]
  rfl
 ·have hpos : 0 < (nlF p l g 0 p.funcs.length).length := List.length_pos_iff.2 hnone
  obtain ⟨z, hz⟩ := List.exists_mem_of_length_pos hpos
  obtain ⟨f0, _, hf0, i0, hi0, hb0, _⟩ := (hmem z).1 hz
  have q0 : okJ p l g (tr 0) = false := by
   rw [← Bool.not_eq_true, iY]
   intro h
   have := (Bx p l g f0 i0).symm.trans (h f0 i0 (by omega) hi0)
   rw [hb0] at this
   cases this
  rw [if_neg (by simp; omega)]
  cases hw : gK (fun f => gK (nwB p l g f) 0 (List.getD p.funcs f []).length) 0 p.funcs.length with
  | false =>
   have q1 : okJ p l g (tr 1) = true := iY.2 fun f i hf hi => by
    rw [By]
    cases hb : nwB p l g f i with
    | false => rfl
    | true =>
     have a1 : gK (nwB p l g f) 0 (List.getD p.funcs f []).length = true := im.2 ⟨i, Nat.zero_le _, by omega, hb⟩
     have a2 : gK (fun f => gK (nwB p l g f) 0 (List.getD p.funcs f []).length) 0 p.funcs.length = true := im.2 ⟨f, Nat.zero_le _, by omega, a1⟩
     rw [hw] at a2
     cases a2
   rw [if_pos (by decide), pT (k := 1) (by omega) (by omega) q1 (fun j h1 h2 => by
    have : j = 0 := by omega
    subst this
    exact q0)]
   rfl
  | true =>
   obtain ⟨f1, _, hf1, h1⟩ := im.1 hw
   obtain ⟨i1, _, hi1, hb1⟩ := im.1 h1
   have q1 : okJ p l g (tr 1) = false := by
    rw [← Bool.not_eq_true, iY]
    intro h
    have := (By p l g f1 i1).symm.trans (h f1 i1 (by omega) (by omega))
    rw [hb1] at this
    cases this
   have q2 : ∀ k, k < 32 → (okJ p l g (tr (k + 2)) = true ↔ y.getLsbD k = true) := fun k hk => by
    rw [iY, y2 k hk]
    constructor
    ·intro h z hz
     obtain ⟨f, _, hf, i, hi, hb, rfl⟩ := (hmem z).1 hz
     have := h f i (by omega) hi
     rw [Bz p l g f i k hk, hb] at this
     simpa using this
    ·intro h f i hf hi
     rw [Bz p l g f i k hk]
     cases hb : gm p l g f i with
     | false => rfl
     | true =>
      rw [h _ ((hmem _).2 ⟨f, Nat.zero_le _, by omega, i, hi, hb, rfl⟩)]
      rfl
   have low : ∀ j, j < 2 → okJ p l g (tr j) = false := fun j hj => by
    match j, hj with
    | 0, _ => exact q0
    | 1, _ => exact q1
   rw [if_neg (by decide)]
   by_cases hz0 : y &&& eo p.locks.toNat = 0#32
   ·rw [if_neg (by simpa using hz0), Bt fun j _ hj => by
     rcases Nat.lt_or_ge j 2 with h | h
     ·exact low j h
     ·obtain ⟨k, rfl⟩ : ∃ k, j = k + 2 := ⟨j - 2, by omega⟩
      rw [← Bool.not_eq_true, q2 k (by omega)]
      intro hb
      have h2 := congrArg (fun v => BitVec.getLsbD v k) hz0
      simp only [BitVec.getLsbD_and, hb, (fe (n := p.locks.toNat) (by omega) k).2 (by omega), BitVec.getLsbD_zero] at h2
      cases h2]
   ·obtain ⟨k, hk⟩ := AJ hz0
    have hkb := hk.2.1
    rw [BitVec.getLsbD_and, Bool.and_eq_true, fe (by omega)] at hkb
    rw [if_pos (by simpa using hz0), bind_some (xk hk), pT (k := k + 2) (Nat.zero_le _) (by omega) ((q2 k hk.1).2 hkb.1) (fun j _ hj => by
     rcases Nat.lt_or_ge j 2 with h | h
     ·exact low j h
     ·obtain ⟨i, rfl⟩ : ∃ i, j = i + 2 := ⟨j - 2, by omega⟩
      rw [← Bool.not_eq_true, q2 i (by omega)]
      intro hb
      exact hk.2.2 i (by omega) (by rw [BitVec.getLsbD_and, hb, (fe (n := p.locks.toNat) (by omega) i).2 (by omega)]; rfl))]
    dsimp only
    rw [show tr (k + 2) = ⟨2, (k : Int)⟩ by unfold tr; rw [if_neg (by omega), if_neg (by omega)]; rfl]
structure Uss (p : ac) (locks : List W32) : Prop where
 len : locks.length = p.funcs.length
def nb (p : ac) (U : List W32) (f : Nat) : Bool := match dq (List.getD p.funcs f []) U with | some x => x.1 | none => false
def ho (p : ac) (U : List W32) (f : Nat) : List W32 := match dq (List.getD p.funcs f []) U with | some x => x.2 | none => []
theorem BA (p : ac) (hg : bw p) {U : List W32} (hU : Uss p U) (f : Nat) (hf : f < p.funcs.length) : dq (List.getD p.funcs f []) U = some (nb p U f, ho p U f) ∧ (ho p U f).length = (List.getD p.funcs f []).length ∧ True := by
 have hl := hg.len f hf
 obtain ⟨b, out, q1, q2, q3, q4⟩ := oO (List.getD p.funcs f []) U hl.1 (by omega) (fun i hi y hy => j5 (hg.node f i hf hi) (by omega) y hy)
 have e1 : nb p U f = b := by unfold nb; rw [q1]
 have e2 : ho p U f = out := by unfold ho; rw [q1]
 rw [e1, e2]
 exact ⟨q1, q2, trivial⟩
def eQ (L : W32) (beh : List Bool) (f i : Nat) : Bool := L.getLsbD f || (decide (f = 0) && List.getD beh i false)
def xR (L : W32) (beh : List Bool) (sm : W32) (f : Nat) : Nat → Nat → List W32
 | _, 0 => []
 | i, m + 1 => (if eQ L beh f i = true then sm else 0#32) :: xR L beh sm f (i + 1) m
theorem uk (L : W32) (beh : List Bool) (sm : W32) (f : Nat) : ∀ (m i : Nat), (xR L beh sm f i m).length = m
 | 0, i => rfl
 | m + 1, i => by simp [xR, uk L beh sm f m (i + 1)]
theorem um (L : W32) (beh : List Bool) (sm : W32) (f : Nat) : ∀ (m i j : Nat), j < m → List.getD (xR L beh sm f i m) j 0#32 = if eQ L beh f (i + j) = true then sm else 0#32
 | 0, i, j, h => by omega
 | m + 1, i, 0, h => rfl
 | m + 1, i, j + 1, h => by
  have := um L beh sm f m (i + 1) j (by omega)
  rw [show i + 1 + j = i + (j + 1) by omega] at this
  exact this
def uo (p : ac) (U : List W32) (L : W32) (beh : List Bool) (sm : W32) (f : Nat) : ad := ⟨0#32, 0#32, ho p U f, if L.getLsbD f = true then sm else 0#32, if f = 0 ∨ L.getLsbD f = true then sm else 0#32, xR L beh sm f 0 (List.getD p.funcs f []).length⟩
def dN (p : ac) (U : List W32) (L : W32) (beh : List Bool) (sm : W32) : Nat → Nat → List ad
 | _, 0 => []
 | f, m + 1 => uo p U L beh sm f :: dN p U L beh sm (f + 1) m
theorem zq (p : ac) (U : List W32) (L : W32) (beh : List Bool) (sm : W32) : ∀ (m f : Nat), (dN p U L beh sm f m).length = m
 | 0, f => rfl
 | m + 1, f => by simp [dN, zq p U L beh sm m (f + 1)]
theorem uq (p : ac) (U : List W32) (L : W32) (beh : List Bool) (sm : W32) : ∀ (m f j : Nat), j < m → sec (dN p U L beh sm f m) j = uo p U L beh sm (f + j)
 | 0, f, j, h => by omega
 | m + 1, f, 0, h => rfl
 | m + 1, f, j + 1, h => by
  have := uq p U L beh sm m (f + 1) j (by omega)
  rw [show f + 1 + j = f + (j + 1) by omega] at this
  exact this
theorem AA {a b : List W32} (hl : a.length = b.length) (h : ∀ j, j < a.length → List.getD a j 0#32 = List.getD b j 0#32) : a = b := by
 apply List.ext_getElem hl
 intro i h1 h2
 have := h i h1
 simpa [List.getD, h1, h2] using this
theorem Dv (L : W32) (f : Nat) (hf : f < 32) : bT L (f : Int) = some (L.getLsbD f) := by rw [oN, if_pos (by omega), Int.toNat_natCast]
theorem w8 (p : ac) (x0 : List ad) (x1 : List ag) (beh : List Bool) (U : List W32) (x4 : List ad) (x5 : List ag) (x6 : List W32) (x12 x15 : Nat → B8) (E L x16 x17 x18 x19 sm : W32) (f : Nat) (hf : f < 32) (x22 : FS) (x23 x24 : Int) (n : Nat) (hn : n ≤ 64) (hb : f = 0 → beh.length = n) : ∀ (m i : Nat) (t : List W32), i + m = n → t.length = n → (∀ j, j < i → List.getD t j 0#32 = if eQ L beh f j = true then sm else 0#32) → (∀ j, i ≤ j → j < n → List.getD t j 0#32 = 0#32) →
  aH x0 x1 beh U x4 x5 x6 t p.globals p.locks p.slots p.funcs x12 E L x15 x16 x17 x18 x19 sm (f : Int) x22 x23 x24 (n : Int) (i : Int) = some (xR L beh sm f 0 n)
 | 0, i, t, h, ht, h1, h2 => by
  rw [aH, iN (by omega)]
  congr 1
  refine AA (by rw [uk, ht]) fun j hj => ?_
  rw [um _ _ _ _ _ _ _ (by omega), h1 j (by omega), Nat.zero_add]
 | m + 1, i, t, h, ht, h1, h2 => by
  have ih := fun t => w8 p x0 x1 beh U x4 x5 x6 x12 x15 E L x16 x17 x18 x19 sm f hf x22 x23 x24 n hn hb m (i + 1) t (by omega)
  have put : eQ L beh f i = true → aH x0 x1 beh U x4 x5 x6 (t.set i sm) p.globals p.locks p.slots p.funcs x12 E L x15 x16 x17 x18 x19 sm (f : Int) x22 x23 x24 (n : Int) ((i + 1 : Nat) : Int) = some (xR L beh sm f 0 n) := fun hl => ih _ (by simpa using ht) (fun j hj => by
   rw [cr _ _ _ _ (by omega)]
   split
   ·rename_i e; subst e; rw [if_pos hl]
   ·exact h1 j (by omega)) (fun j h3 h4 => by rw [cr _ _ _ _ (by omega), if_neg (by omega)]; exact h2 j (by omega) h4)
  have no : eQ L beh f i = false → aH x0 x1 beh U x4 x5 x6 t p.globals p.locks p.slots p.funcs x12 E L x15 x16 x17 x18 x19 sm (f : Int) x22 x23 x24 (n : Int) ((i + 1 : Nat) : Int) = some (xR L beh sm f 0 n) := fun hl => ih _ ht (fun j hj => by
   rcases Nat.lt_or_ge j i with h3 | h3
   ·exact h1 j h3
   ·have : j = i := by omega
    subst this
    rw [hl, if_neg (by decide)]
    exact h2 j (Nat.le_refl _) (by omega)) (fun j h3 h4 => h2 j (by omega) h4)
  rw [aH, iP (by omega), bind_some (Dv L f hf), inc i (by omega), Int.toNat_natCast i]
  by_cases hL : L.getLsbD f = true
  ·rw [if_pos hL, iP (by omega), iP (by omega)]
   exact put (by unfold eQ; rw [hL]; rfl)
  ·have hL' : L.getLsbD f = false := by simpa using hL
   rw [if_neg hL]
   by_cases h0 : f = 0
   ·have hbl := hb h0
    rw [if_pos (eqT (by omega)), iP (by omega), iP (by omega)]
    by_cases hbi : List.getD beh i false = true
    ·rw [if_pos hbi, iP (by omega)]
     exact put (by unfold eQ; rw [hbi, decide_eq_true h0]; simp)
    ·rw [if_neg hbi]
     exact no (by unfold eQ; rw [hL', show List.getD beh i false = false by simpa using hbi]; simp)
   ·rw [if_neg (eqF (by omega))]
    exact no (by unfold eQ; rw [hL', decide_eq_false h0]; rfl)
theorem GY (n i : Nat) (h : i < n) : List.getD (List.replicate n (0#32 : W32)) i 0#32 = 0#32 := by simp [List.getD, List.getElem?_replicate, h]
theorem zr (p : ac) (hg : bw p) {U : List W32} (hU : Uss p U) (x0 : List ad) (x1 : List ag) (beh : List Bool) (hb : beh.length = (List.getD p.funcs 0 []).length) (x5 : List ag) (x10 x13 : Nat → B8) (E L sm : W32) : ∀ (m f : Nat) (t : List ad), f + m = p.funcs.length → t.length = f →
  ((∀ g, f ≤ g → g < p.funcs.length → nb p U g = true) → aU x0 x1 beh U t x5 p.globals p.locks p.slots p.funcs x10 E L x13 sm p.funcs (p.funcs.length : Int) (f : Int) = some (.x1 (t ++ dN p U L beh sm f m))) ∧
  (¬ (∀ g, f ≤ g → g < p.funcs.length → nb p U g = true) → ∃ t', aU x0 x1 beh U t x5 p.globals p.locks p.slots p.funcs x10 E L x13 sm p.funcs (p.funcs.length : Int) (f : Int) = some (.x0 [] [] t' (fun _ => 0#8) false 0))
 | 0, f, t, h, ht => by
  rw [aU, iN (by omega)]
  exact ⟨fun _ => by simp [dN], fun hn => absurd (fun g h1 h2 => by omega) hn⟩
 | m + 1, f, t, h, ht => by
  have hn := hg.funcs.2
  have hle := hg.le f
  obtain ⟨q1, q2, _⟩ := BA p hg hU f (by omega)
  obtain ⟨i1, i2⟩ := zr p hg hU x0 x1 beh hb x5 x10 x13 E L sm m (f + 1) (t ++ [uo p U L beh sm f]) (by omega) (by simp [ht])
  have hnb : nb p U f = true → ((∀ g, f ≤ g → g < p.funcs.length → nb p U g = true) ↔ (∀ g, f + 1 ≤ g → g < p.funcs.length → nb p U g = true)) := fun hf => ⟨fun h g h1 h2 => h g (by omega) h2, fun h g h1 h2 => by
   rcases Nat.eq_or_lt_of_le h1 with rfl | h3
   ·exact hf
   ·exact h g h3 h2⟩
  have hsize : ∀ s : ad, Nat.ble ((t.length + [s].length) * 64) aF = true := fun s => Nat.ble_eq_true_of_le (by simp only [List.length_singleton, aF]; omega)
  have h20 := fun x16 x17 x18 x19 => w8 p x0 x1 beh U t x5 (ho p U f) x10 x13 E L x16 x17 x18 x19 sm f (by omega) p.funcs (p.funcs.length : Int) (f : Int) (List.getD p.funcs f []).length hle (fun h0 => by rw [h0]; exact hb) (List.getD p.funcs f []).length 0 (List.replicate (List.getD p.funcs f []).length 0#32) (by omega) (by simp) (fun j hj => by omega) (fun j _ hj => GY _ _ hj)
  rw [show ((0 : Nat) : Int) = 0 from rfl] at h20
  rw [aU, iP (by omega), iP (by omega), iP (by omega), Int.toNat_natCast f, bind_some q1, inc f (by omega)]
  dsimp only
  cases hf : nb p U f with
  | false =>
   rw [if_pos (by decide)]
   exact ⟨fun h => absurd (h f (Nat.le_refl _) (by omega)) (by rw [hf]; decide), fun _ => ⟨t, rfl⟩⟩
  | true =>
   rw [hnb hf, if_neg (by decide), iP (by omega), if_pos (decide_eq_true (by simp only [aF]; omega)), Int.toNat_natCast (List.getD p.funcs f []).length]
   have e1 : t ++ dN p U L beh sm f (m + 1) = t ++ [uo p U L beh sm f] ++ dN p U L beh sm (f + 1) m := by rw [List.append_assoc]; rfl
   rw [e1]
   have fin : ∀ s : ad, s = uo p U L beh sm f → aU x0 x1 beh U (t ++ [s]) x5 p.globals p.locks p.slots p.funcs x10 E L x13 sm p.funcs (p.funcs.length : Int) ((f + 1 : Nat) : Int) = aU x0 x1 beh U (t ++ [uo p U L beh sm f]) x5 p.globals p.locks p.slots p.funcs x10 E L x13 sm p.funcs (p.funcs.length : Int) ((f + 1 : Nat) : Int) := fun s hs => by rw [hs]
   by_cases h0 : f = 0
   ·rw [if_pos (eqT (by omega)), bind_some (Dv L f (by omega))]
    by_cases hL : L.getLsbD f = true
    ·rw [if_pos hL, bind_some (h20 _ _ _ _), if_pos (hsize _), fin _ (by unfold uo; rw [if_pos hL, if_pos (.inl h0)])]
     exact ⟨i1, i2⟩
    ·rw [if_neg hL, bind_some (h20 _ _ _ _), if_pos (hsize _), fin _ (by unfold uo; rw [if_neg hL, if_pos (.inl h0)])]
     exact ⟨i1, i2⟩
   ·rw [if_neg (eqF (by omega)), bind_some (Dv L f (by omega))]
    by_cases hL : L.getLsbD f = true
    ·rw [if_pos hL, bind_some (Dv L f (by omega)), if_pos hL, bind_some (h20 _ _ _ _), if_pos (hsize _), fin _ (by unfold uo; rw [if_pos hL, if_pos (.inr hL)])]
     exact ⟨i1, i2⟩
    ·rw [if_neg hL, bind_some (Dv L f (by omega)), if_neg hL, bind_some (h20 _ _ _ _), if_pos (hsize _), fin _ (by unfold uo; rw [if_neg hL, if_neg (fun h => h.elim h0 hL)])]
     exact ⟨i1, i2⟩
def nH (p : ac) (l : List ad) : Nat → Nat → List ag
 | _, 0 => []
 | g, m + 1 => tr ((gn p l (g : Int)).getD 0) :: nH p l (g + 1) m
theorem w9 (p : ac) (hg : bw p) (l : List ad) (hs : Shp p l) (x0 : List ad) (x1 : List ag) (beh : List Bool) (x10 x13 : Nat → B8) (E L : W32) (G : Nat) (hG : G ≤ 16) : ∀ (m g : Nat) (t : List ag), g + m = G → t.length = g →
  ((∀ k, g ≤ k → k < G → gn p l (k : Int) ≠ none) → cA x0 x1 beh l t p.globals p.locks p.slots p.funcs x10 E L x13 (G : Int) (g : Int) = some (.x1 (t ++ nH p l g m))) ∧
  (¬ (∀ k, g ≤ k → k < G → gn p l (k : Int) ≠ none) → ∃ t', cA x0 x1 beh l t p.globals p.locks p.slots p.funcs x10 E L x13 (G : Int) (g : Int) = some (.x0 [] [] t' (fun _ => 0#8) false 0))
 | 0, g, t, h, ht => by
  rw [cA, iN (by omega)]
  exact ⟨fun _ => by simp [nH], fun hn => absurd (fun k h1 h2 => by omega) hn⟩
 | m + 1, g, t, h, ht => by
  rw [cA, iP (by omega), bind_some (show jk (ac.mk p.globals p.locks p.slots p.funcs) l (g : Int) = _ from ES p hg l hs (g : Int)), inc g (by omega)]
  cases hb : gn p l (g : Int) with
  | none =>
   refine ⟨fun h => absurd hb (h g (Nat.le_refl _) (by omega)), fun _ => ⟨t, ?_⟩⟩
   rfl
  | some k =>
   obtain ⟨i1, i2⟩ := w9 p hg l hs x0 x1 beh x10 x13 E L G hG m (g + 1) (t ++ [tr k]) (by omega) (by simp [ht])
   have e : (∀ j, g ≤ j → j < G → gn p l (j : Int) ≠ none) ↔ (∀ j, g + 1 ≤ j → j < G → gn p l (j : Int) ≠ none) := ⟨fun h j h1 h2 => h j (by omega) h2, fun h j h1 h2 => by
    rcases Nat.eq_or_lt_of_le h1 with rfl | h3
    ·rw [hb]; exact fun h => by cases h
    ·exact h j h3 h2⟩
   have e1 : t ++ nH p l g (m + 1) = t ++ [tr k] ++ nH p l (g + 1) m := by
    rw [List.append_assoc, show nH p l g (m + 1) = tr ((gn p l (g : Int)).getD 0) :: nH p l (g + 1) m from rfl, hb]
    rfl
   rw [e, e1]
   dsimp only
   rw [if_neg (by decide), if_pos (Nat.ble_eq_true_of_le (by simp only [List.length_singleton, aF]; omega))]
   exact ⟨i1, i2⟩
def quiet (p : ac) (beh : List Bool) (i : Nat) : Prop := List.getD beh i false = true → acc (nde p 0 i) = false ∧ ((nde p 0 i).kind = 7 → ∀ b, ¬ May p.funcs ofT (nde p 0 i).arg.toNat b)
theorem xa (p : ac) (hg : bw p) {T : List W32} (hT : T.length = p.funcs.length) (hTb : ∀ f, f < p.funcs.length → ∀ b, (List.getD T f 0#32).getLsbD b = true ↔ May p.funcs ofT f b) (beh : List Bool) (hb : beh.length = (List.getD p.funcs 0 []).length) (E L : W32) : ∀ (m i : Nat), i + m = (List.getD p.funcs 0 []).length →
  ((∀ j, i ≤ j → j < (List.getD p.funcs 0 []).length → quiet p beh j) → bD T beh E L (List.getD p.funcs 0 []) ((List.getD p.funcs 0 []).length : Int) (i : Int) = some .x1) ∧
  (¬ (∀ j, i ≤ j → j < (List.getD p.funcs 0 []).length → quiet p beh j) → bD T beh E L (List.getD p.funcs 0 []) ((List.getD p.funcs 0 []).length : Int) (i : Int) = some (.x0 false))
 | 0, i, h => by
  rw [bD, iN (by omega)]
  exact ⟨fun _ => rfl, fun hn => absurd (fun k h1 h2 => by omega) hn⟩
 | m + 1, i, h => by
  have hn := hg.funcs
  have hle := hg.le 0
  obtain ⟨i1, i2⟩ := xa p hg hT hTb beh hb E L m (i + 1) (by omega)
  have e : quiet p beh i → ((∀ j, i ≤ j → j < (List.getD p.funcs 0 []).length → quiet p beh j) ↔ (∀ j, i + 1 ≤ j → j < (List.getD p.funcs 0 []).length → quiet p beh j)) := fun hq => ⟨fun h j h1 h2 => h j (by omega) h2, fun h j h1 h2 => by
   rcases Nat.eq_or_lt_of_le h1 with rfl | h3
   ·exact hq
   ·exact h j h3 h2⟩
  have bad : ¬ quiet p beh i → ((∀ j, i ≤ j → j < (List.getD p.funcs 0 []).length → quiet p beh j) → (some (.x0 false) : Option bN) = some .x1) ∧ (¬ (∀ j, i ≤ j → j < (List.getD p.funcs 0 []).length → quiet p beh j) → (some (.x0 false) : Option bN) = some (.x0 false)) := fun hq => ⟨fun h => absurd (h i (Nat.le_refl _) (by omega)) hq, fun _ => rfl⟩
  rw [bD, iP (by omega), iP (by omega), iP (by omega), Int.toNat_natCast i, bind_some (ri _), inc i (by omega), iP (by omega)]
  dsimp only
  by_cases hbi : List.getD beh i false = true
  ·rw [if_pos hbi]
   by_cases ha : acc (nde p 0 i) = true
   ·rw [if_pos ha]
    exact bad fun hq => by rw [(hq hbi).1] at ha; cases ha
   ·have ha' : acc (nde p 0 i) = false := by simpa using ha
    rw [if_neg ha]
    by_cases h7 : (nde p 0 i).kind = 7
    ·have hc : 0 ≤ (nde p 0 i).arg ∧ (nde p 0 i).arg < p.funcs.length := hg.calls 0 i hn.1 (by omega) h7
     have hT2 : (nde p 0 i).arg < (T.length : Int) := by rw [hT]; exact hc.2
     rw [if_pos (eqT h7), if_pos (decide_eq_true hc.1), if_pos (decide_eq_true hT2)]
     by_cases ht : List.getD T (nde p 0 i).arg.toNat 0#32 = 0#32
     ·have hq : quiet p beh i := fun _ => ⟨ha', fun _ b hm => by
       have := (hTb _ (by omega) b).2 hm
       rw [ht] at this
       simp at this⟩
      rw [if_neg (by simpa using ht), e hq]
      exact ⟨i1, i2⟩
     ·rw [if_pos (by simpa using ht)]
      refine bad fun hq => ht ?_
      apply yc
      intro b
      rw [hTb _ (by omega)]
      exact ⟨fun h => absurd h ((hq hbi).2 h7 b), fun h => by simp at h⟩
    ·rw [if_neg (eqF h7), e fun _ => ⟨ha', fun h => absurd h h7⟩]
     exact ⟨i1, i2⟩
  ·rw [if_neg hbi, e fun h => absurd h hbi]
   exact ⟨i1, i2⟩
structure rk (p : ac) (beh : List Bool) (E L : W32) : Prop where
 begins : ∀ b, b < p.funcs.length → rt p.funcs b → b = 0
 both : ∀ b, ¬ (E.getLsbD b = true ∧ L.getLsbD b = true)
 e0 : ¬ E.getLsbD 0 = true
 l0 : ¬ L.getLsbD 0 = true
 all : ∀ b, 0 < b → b < p.funcs.length → E.getLsbD b = true ∨ L.getLsbD b = true
 quiet : ∀ j, j < (List.getD p.funcs 0 []).length → quiet p beh j
theorem BB (b : Nat) : (1#32).getLsbD b = true ↔ b = 0 := by
 have : ∀ b : Fin 32, (1#32).getLsbD b.val = true ↔ b.val = 0 := by decide
 by_cases h : b < 32
 ·exact this ⟨b, h⟩
 ·rw [BitVec.getLsbD_of_ge _ _ (by omega)]
  exact ⟨(fun h => by cases h), fun h => by omega⟩
theorem ne0 {x : W32} : (x != 0#32) = true ↔ ∃ b, x.getLsbD b = true := by
 rw [bne_iff_ne]
 constructor
 ·intro h
  obtain ⟨k, hk⟩ := AJ h
  exact ⟨k, hk.2.1⟩
 ·rintro ⟨b, hb⟩ e
  rw [e] at hb
  simp at hb
theorem CF (p : ac) (hg : bw p) (hk : ay p = some (0, 0, 0)) (beh : List Bool) (hb : beh.length = (List.getD p.funcs 0 []).length) (E L : W32) (hE : ∀ b, E.getLsbD b = true → b < p.funcs.length) (hL : ∀ b, L.getLsbD b = true → b < p.funcs.length) : ∃ r, iV p ⟨beh, E, L⟩ = some r ∧ (r = true ↔ rk p beh E L) := by
 have hn := hg.funcs
 have hle := hg.le 0
 obtain ⟨x, x1, x2⟩ := xg p hg hk
 obtain ⟨T, t1, t2, t3⟩ := Ay p hg hk
 obtain ⟨q1, q2⟩ := xa p hg t2 t3 beh hb E L (List.getD p.funcs 0 []).length 0 (by omega)
 rw [show ((0 : Nat) : Int) = 0 from rfl] at q1 q2
 have no : ¬ rk p beh E L → ∃ r, (some false : Option Bool) = some r ∧ (r = true ↔ rk p beh E L) := fun h => ⟨false, rfl, (fun h => by cases h), fun h2 => absurd h2 h⟩
 unfold iV
 rw [bind_some x1, bind_some t1, bind_some (pZ p.funcs.length (by omega))]
 dsimp only
 by_cases c1 : ((x &&& ~~~(1#32)) != (0#32)) = true
 ·rw [if_pos c1]
  obtain ⟨b, hb1⟩ := ne0.1 c1
  refine no fun h => ?_
  rw [BitVec.getLsbD_and, Bool.and_eq_true, BitVec.getLsbD_not, Bool.and_eq_true, x2] at hb1
  have := h.begins b hb1.1.1 hb1.1.2
  rw [this] at hb1
  exact absurd hb1.2.2 (by decide)
 ·rw [if_neg c1]
  have g1 : ∀ b, b < p.funcs.length → rt p.funcs b → b = 0 := fun b h1 h2 => by
   rcases Nat.eq_zero_or_pos b with h0 | h0
   ·exact h0
   ·exfalso
    refine c1 (ne0.2 ⟨b, ?_⟩)
    rw [BitVec.getLsbD_and, (x2 b).2 ⟨h1, h2⟩, BitVec.getLsbD_not, show (1#32).getLsbD b = false by rw [← Bool.not_eq_true, BB]; omega]
    simp; omega
  by_cases c2 : ((E &&& L) != (0#32)) = true
  ·rw [if_pos c2]
   obtain ⟨b, hb1⟩ := ne0.1 c2
   rw [BitVec.getLsbD_and, Bool.and_eq_true] at hb1
   exact no fun h => h.both b hb1
  ·rw [if_neg c2]
   have g2 : ∀ b, ¬ (E.getLsbD b = true ∧ L.getLsbD b = true) := fun b h => c2 (ne0.2 ⟨b, by rw [BitVec.getLsbD_and, h.1, h.2]; rfl⟩)
   by_cases c3 : (((E ||| L) &&& (1#32)) != (0#32)) = true
   ·rw [if_pos c3]
    obtain ⟨b, hb1⟩ := ne0.1 c3
    rw [BitVec.getLsbD_and, Bool.and_eq_true, BitVec.getLsbD_or, Bool.or_eq_true, BB] at hb1
    refine no fun h => ?_
    rw [hb1.2] at hb1
    exact hb1.1.elim h.e0 h.l0
   ·rw [if_neg c3]
    have g3 : ∀ y, ¬ ((E ||| L).getLsbD 0 = true ∧ y = y) := fun (y : Nat) h => c3 (ne0.2 ⟨0, by rw [BitVec.getLsbD_and, h.1]; rfl⟩)
    by_cases c4 : (((E ||| L) ||| (1#32)) != eo p.funcs.length) = true
    ·rw [if_pos c4]
     refine no fun h => ?_
     rw [bne_iff_ne] at c4
     apply c4
     apply yc
     intro b
     rw [BitVec.getLsbD_or, Bool.or_eq_true, BitVec.getLsbD_or, Bool.or_eq_true, BB, fe (by omega)]
     constructor
     ·rintro ((h1 | h1) | h1)
      ·exact hE b h1
      ·exact hL b h1
      ·omega
     ·intro h1
      rcases Nat.eq_zero_or_pos b with h0 | h0
      ·exact .inr h0
      ·exact .inl (h.all b h0 h1)
    ·rw [if_neg c4, iP (by omega)]
     have e4 : (E ||| L) ||| 1#32 = eo p.funcs.length := by simpa using c4
     have g4 : ∀ b, 0 < b → b < p.funcs.length → E.getLsbD b = true ∨ L.getLsbD b = true := fun b h0 h1 => by
      have h2 := (fe (n := p.funcs.length) (by omega) b).2 h1
      rw [← e4, BitVec.getLsbD_or, Bool.or_eq_true, BitVec.getLsbD_or, Bool.or_eq_true, BB] at h2
      exact h2.resolve_right (by omega)
     by_cases c5 : ∀ j, 0 ≤ j → j < (List.getD p.funcs 0 []).length → quiet p beh j
     ·rw [bind_some (q1 c5)]
      exact ⟨true, rfl, fun _ => ⟨g1, g2, fun h => g3 0 ⟨by rw [BitVec.getLsbD_or, h]; rfl, rfl⟩, fun h => g3 0 ⟨by rw [BitVec.getLsbD_or, h]; simp, rfl⟩, g4, fun j hj => c5 j (Nat.zero_le _) hj⟩, fun _ => rfl⟩
     ·rw [bind_some (q2 c5)]
      exact no fun h => c5 fun j _ hj => h.quiet j hj
structure ur (p : ac) (U : List W32) (beh : List Bool) (E L : W32) (l : List ad) : Prop where
 nest : ∀ g, g < p.funcs.length → nb p U g = true
 just : ∀ k, k < p.globals.toNat → gn p l (k : Int) ≠ none
 part : rk p beh E L
theorem zt (p : ac) (hg : bw p) {U : List W32} (hU : Uss p U) (L : W32) (beh : List Bool) (sm : W32) : Shp p (dN p U L beh sm 0 p.funcs.length) := ⟨zq _ _ _ _ _ _ _, fun f hf => by
 rw [uq p U L beh sm p.funcs.length 0 f hf, Nat.zero_add]
 exact ⟨(BA p hg hU f hf).2.1, uk _ _ _ _ _ _⟩⟩
theorem CG (t : List B8) : d9 (fun _ => 0#8) 0 32 (iE t) = iE t := by
 funext i
 unfold d9 iE
 by_cases hi : i < 32
 ·rw [if_pos (by omega), if_pos hi, Nat.sub_zero, if_pos hi]
 ·rw [if_neg (by omega), if_neg hi]
theorem zu (p : ac) (hg : bw p) (hk : ay p = some (0, 0, 0)) {U : List W32} (hU : Uss p U) (u1 : jG p = some (0, U)) (beh : List Bool) (E L : W32) (p1 : fZ p = some (E, L, 0, beh)) (hb : beh.length = (List.getD p.funcs 0 []).length) (hE : ∀ b, E.getLsbD b = true → b < p.funcs.length) (hL : ∀ b, L.getLsbD b = true → b < p.funcs.length) :
  (ur p U beh E L (dN p U L beh (eo (p.slots.toNat + 1)) 0 p.funcs.length) → bA p = some (iE (gc p), true, 0, dN p U L beh (eo (p.slots.toNat + 1)) 0 p.funcs.length, nH p (dN p U L beh (eo (p.slots.toNat + 1)) 0 p.funcs.length) 0 p.globals.toNat)) ∧
  (¬ ur p U beh E L (dN p U L beh (eo (p.slots.toNat + 1)) 0 p.funcs.length) → bA p = some (fun _ => 0#8, false, 0, [], [])) := by
 have hn := hg.funcs
 have hgl := hg.globals
 have hsl := hg.slots
 have hs := zt p hg hU L beh (eo (p.slots.toNat + 1))
 obtain ⟨i1, i2⟩ := zr p hg hU [] [] beh hb [] (fun _ => 0#8) (iE (gc p)) E L (eo (p.slots.toNat + 1)) p.funcs.length 0 [] (by omega) rfl
 obtain ⟨j1, j2⟩ := w9 p hg (dN p U L beh (eo (p.slots.toNat + 1)) 0 p.funcs.length) hs [] [] beh (fun _ => 0#8) (iE (gc p)) E L p.globals.toNat (by omega) p.globals.toNat 0 [] (by omega) rfl
 rw [show ((0 : Nat) : Int) = 0 from rfl, List.nil_append] at i1 j1
 rw [show ((0 : Nat) : Int) = 0 from rfl] at i2 j2
 rw [Int.toNat_of_nonneg hgl.1] at j1 j2
 obtain ⟨r, r1, r2⟩ := CF p hg hk beh hb E L hE hL
 have hsm : fN (am p.slots 1) = some (eo (p.slots.toNat + 1)) := by
  rw [show am p.slots 1 = ((p.slots.toNat + 1 : Nat) : Int) by rw [j7 (by omega) (by omega)]; omega]
  exact pZ _ (by omega)
 unfold bA
 rw [bind_some p1]
 dsimp only
 rw [if_neg (by decide), bind_some u1, bind_some (mb hg hk), bind_some hsm]
 dsimp only
 rw [CG]
 by_cases c1 : ∀ g, 0 ≤ g → g < p.funcs.length → nb p U g = true
 ·rw [bind_some (i1 c1)]
  dsimp only
  by_cases c2 : ∀ k, 0 ≤ k → k < p.globals.toNat → gn p (dN p U L beh (eo (p.slots.toNat + 1)) 0 p.funcs.length) (k : Int) ≠ none
  ·rw [bind_some (j1 c2)]
   dsimp only
   rw [bind_some r1]
   cases r with
   | true =>
    rw [if_neg (by decide)]
    exact ⟨fun _ => rfl, fun h => absurd ⟨fun g hgg => c1 g (Nat.zero_le _) hgg, fun k hkk => c2 k (Nat.zero_le _) hkk, r2.1 rfl⟩ h⟩
   | false =>
    rw [if_pos (by decide)]
    exact ⟨fun h => absurd (r2.2 h.part) (by decide), fun _ => rfl⟩
  ·obtain ⟨t', e⟩ := j2 c2
   rw [bind_some e]
   exact ⟨fun h => absurd (fun k _ hkk => h.just k hkk) c2, fun _ => rfl⟩
 ·obtain ⟨t', e⟩ := i2 c1
  rw [bind_some e]
  exact ⟨fun h => absurd (fun g _ hgg => h.nest g hgg) c1, fun _ => rfl⟩
theorem Dw (l : List aa) : ∀ (m i j : Nat), i + m = l.length → i ≤ j → j < l.length → (List.getD l j ab).kind = 5 → (j : Int) ∈ spn l i m
 | 0, i, j, h, h1, h2, h3 => by omega
 | m + 1, i, j, h, h1, h2, h3 => by
  unfold spn
  rcases Nat.eq_or_lt_of_le h1 with rfl | h4
  ·rw [if_pos h3]; exact List.mem_append_left _ (List.mem_singleton.2 rfl)
  ·exact List.mem_append_right _ (Dw l m (i + 1) j (by omega) (by omega) h2 h3)
structure Dx (p : ac) (beh : List Bool) (E L : W32) : Prop where
 bl : beh.length = (List.getD p.funcs 0 []).length
 eb : ∀ b, E.getLsbD b = true → b < p.funcs.length
 lb : ∀ b, L.getLsbD b = true → b < p.funcs.length
 bu : ∀ y, List.getD beh y false = true → ∃ i, To (List.getD p.funcs 0 []) i y
 eu : ∀ b, E.getLsbD b = true → ∃ i, i < (List.getD p.funcs 0 []).length ∧ (nde p 0 i).kind = 7
 lu : ∀ b, L.getLsbD b = true → ∃ z, (xh p.funcs z ∨ ∃ i, i < (List.getD p.funcs 0 []).length ∧ (nde p 0 i).kind = 7) ∧ jK p.funcs z b
 begun : ∀ g, g < p.funcs.length → xh p.funcs g → L.getLsbD g = true
 callL : ∀ f g, f < p.funcs.length → L.getLsbD f = true → Edge p.funcs f g → L.getLsbD g = true
 callE : ∀ f g, f < p.funcs.length → E.getLsbD f = true → Edge p.funcs f g → E.getLsbD g = true
 late : ∀ i, i < (List.getD p.funcs 0 []).length → (nde p 0 i).kind = 7 → List.getD beh i false = true → L.getLsbD (nde p 0 i).arg.toNat = true
 early : ∀ i, i < (List.getD p.funcs 0 []).length → (nde p 0 i).kind = 7 → List.getD beh i false = false → E.getLsbD (nde p 0 i).arg.toNat = true
 spawn : ∀ i y : Nat, i < (List.getD p.funcs 0 []).length → (nde p 0 i).kind = 5 → (y : Int) ∈ succ (nde p 0 i) → List.getD beh y false = true
 on : ∀ i y : Nat, i < (List.getD p.funcs 0 []).length → List.getD beh i false = true → (y : Int) ∈ succ (nde p 0 i) → List.getD beh y false = true
theorem xS (p : ac) (hg : bw p) (hk : ay p = some (0, 0, 0)) : ∃ (beh : List Bool) (E L : W32), fZ p = some (E, L, 0, beh) ∧ Dx p beh E L := by
 have hn := hg.funcs
 have hll := hg.le 0
 have hle : ∀ f, (List.getD p.funcs f []).length ≤ 65536 := fun f => by have := hg.le f; omega
 have hsp := BY (List.getD p.funcs 0 []) (List.getD p.funcs 0 []).length 0
 obtain ⟨a, a1, a2, a3⟩ := DP (List.getD p.funcs 0 []) (by omega) (spn (List.getD p.funcs 0 []) 0 (List.getD p.funcs 0 []).length) (by omega)
 obtain ⟨x, x1, x2⟩ := zF p hg
 obtain ⟨e, t, e1, e2, e3⟩ := xN (List.getD p.funcs 0 []) (by omega) a a2 [] p.globals p.locks p.slots p.funcs 0#32 0#32 0#32 0#32 (List.getD p.funcs 0 []).length 0 0#32 x 0#32 (Nat.zero_add _)
 rw [show ((0 : Nat) : Int) = 0 from rfl] at e1
 obtain ⟨C, c1, c2, c3⟩ := uy p (by omega) hle
 have hC : C.length ≤ 32 := by omega
 obtain ⟨E, E1, E2⟩ := xl p c1 hC e
 obtain ⟨L, L1, L2⟩ := xl p c1 hC t
 have hto : ∀ i y : Nat, i < (List.getD p.funcs 0 []).length → (y : Int) ∈ succ (nde p 0 i) → To (List.getD p.funcs 0 []) i y := fun i y hi hy => by
  have := j5 (hg.node 0 i hn.1 hi) (by omega) (y : Int) hy
  exact ⟨hi, by omega, hy⟩
 have hedge : ∀ f g, f < p.funcs.length → Edge p.funcs f g → g < p.funcs.length ∧ (List.getD C f 0#32).getLsbD g = true := fun f g hf he => by
  have := (he.lt hg.calls).2
  exact ⟨this, (c3 f g hf).2 ⟨by omega, he⟩⟩
 have snoc : ∀ {a b c : Nat}, Rt C a b → c < C.length → (List.getD C b 0#32).getLsbD c = true → Rt C a c := fun h => by
  induction h with
  | refl a => exact fun h1 h2 => .step _ _ _ h1 h2 (.refl _)
  | step a b d h1 h2 _ ih => exact fun h3 h4 => .step _ _ _ h1 h2 (ih h3 h4)
 have snB : ∀ y, List.getD a y false = true ↔ Aft (List.getD p.funcs 0 []) (spn (List.getD p.funcs 0 []) 0 (List.getD p.funcs 0 []).length) y := fun y => by rw [← a3]; exact Iff.rfl
 have path : ∀ {a b : Nat}, Rt C a b → a < C.length → jK p.funcs a b := fun h => by
  induction h with
  | refl a => exact fun _ => .refl a
  | step a b d h1 h2 _ ih => exact fun ha => .step _ _ _ ((c3 a b (by omega)).1 h2).2 (ih h1)
 have harg : ∀ i, i < (List.getD p.funcs 0 []).length → (nde p 0 i).kind = 7 → 0 ≤ (nde p 0 i).arg ∧ (nde p 0 i).arg < p.funcs.length := fun i hi h7 => hg.calls 0 i hn.1 hi h7
 refine ⟨a, E, L, ?_, ⟨a2, fun b h => by obtain ⟨z, h1, _, h3⟩ := (E2 b).1 h; rw [← c2]; exact FA h3 h1, fun b h => by obtain ⟨z, h1, _, h3⟩ := (L2 b).1 h; rw [← c2]; exact FA h3 h1, fun y h => by
  cases (snB y).1 h with
  | first _ h2 => exact ⟨_, h2⟩
  | more _ h2 => exact ⟨_, h2⟩, fun b h => by
  obtain ⟨z, h1, h2, h3⟩ := (E2 b).1 h
  rcases (e2 z).1 h2 with h4 | ⟨_, j, _, h5, h6, _⟩
  ·simp at h4
  ·exact ⟨j, h5, h6⟩, fun b h => by
  obtain ⟨z, h1, h2, h3⟩ := (L2 b).1 h
  refine ⟨z, ?_, path h3 h1⟩
  rcases (e3 z).1 h2 with h4 | ⟨_, j, _, h5, h6, _⟩
  ·exact .inl ((x2 z (by omega)).1 h4)
  ·exact .inr ⟨j, h5, h6⟩, fun g hgl hb => ?_, fun f g hf hL he => ?_, fun f g hf hE he => ?_, fun i hi h7 hb => ?_, fun i hi h7 hb => ?_, fun i y hi h5 hy => ?_, fun i y hi hb hy => ?_⟩⟩
 ·have q6 := Dg (List.getD p.funcs 0 []) (by omega) [] p.globals p.locks p.slots p.funcs 0#32 0#32 (List.getD p.funcs 0 []).length 0 [] (Nat.zero_add _) (Nat.le_refl _)
  rw [show ((0 : Nat) : Int) = 0 from rfl, List.nil_append] at q6
  unfold fZ
  rw [bind_some hk, if_neg (show ¬ ((0 : Int) != 0) = true by decide), iP (by omega), bind_some q6, bind_some a1, bind_some x1, bind_some e1, bind_some E1, bind_some L1]
 ·exact (L2 g).2 ⟨g, by omega, (e3 g).2 (.inl ((x2 g (by omega)).2 hb)), .refl g⟩
 ·obtain ⟨z, h1, h2, h3⟩ := (L2 f).1 hL
  obtain ⟨k1, k2⟩ := hedge f g hf he
  exact (L2 g).2 ⟨z, h1, h2, snoc h3 (by omega) k2⟩
 ·obtain ⟨z, h1, h2, h3⟩ := (E2 f).1 hE
  obtain ⟨k1, k2⟩ := hedge f g hf he
  exact (E2 g).2 ⟨z, h1, h2, snoc h3 (by omega) k2⟩
 ·have := harg i hi h7
  exact (L2 _).2 ⟨_, by omega, (e3 _).2 (.inr ⟨by omega, i, Nat.zero_le _, hi, h7, hb, by show (nde p 0 i).arg = _; omega⟩), .refl _⟩
 ·have := harg i hi h7
  exact (E2 _).2 ⟨_, by omega, (e2 _).2 (.inr ⟨by omega, i, Nat.zero_le _, hi, h7, hb, by show (nde p 0 i).arg = _; omega⟩), .refl _⟩
 ·exact (snB y).2 (.first (Dw _ _ 0 i (by omega) (Nat.zero_le _) hi h5) (hto i y hi hy))
 ·exact (snB y).2 (.more ((snB i).1 hb) (hto i y hi hy))
theorem ET {p : ac} (hg : bw p) (hk : ay p = some (0, 0, 0)) {beh : List Bool} {E L : W32} {e : Int} (h : fZ p = some (E, L, e, beh)) : Dx p beh E L := by
 obtain ⟨b2, E2, L2, h1, h2⟩ := xS p hg hk
 rw [h] at h1
 have h1 := Option.some.inj h1
 simp only [Prod.mk.injEq] at h1
 obtain ⟨rfl, rfl, _, rfl⟩ := h1
 exact h2
theorem rl {p : ac} {U : List W32} {beh : List Bool} {L sm : W32} (f : Nat) (hf : f < p.funcs.length) : sec (dN p U L beh sm 0 p.funcs.length) f = uo p U L beh sm f := by
 rw [uq p U L beh sm p.funcs.length 0 f hf, Nat.zero_add]
theorem oL {p : ac} {U : List W32} {beh : List Bool} {L sm : W32} (f i : Nat) (hf : f < p.funcs.length) (hi : i < (List.getD p.funcs f []).length) : liv (dN p U L beh sm 0 p.funcs.length) f i = if eQ L beh f i = true then sm else 0#32 := by
 show List.getD (sec (dN p U L beh sm 0 p.funcs.length) f).live i 0#32 = _
 rw [rl f hf]
 show List.getD (xR L beh sm f 0 _) i 0#32 = _
 rw [um _ _ _ _ _ _ _ hi, Nat.zero_add]
theorem Dy {p : ac} {U : List W32} (hg : bw p) (hU : Uss p U) (f : Nat) (hf : f < p.funcs.length) (hb : nb p U f = true) : Lab (List.getD p.funcs f []) U (fun i => List.getD (ho p U f) i 0#32) := by
 have hl := hg.len f hf
 obtain ⟨b, out, q1, q2, q3, q4⟩ := oO (List.getD p.funcs f []) U hl.1 (by omega) (fun i hi y hy => j5 (hg.node f i hf hi) (by omega) y hy)
 have e1 : nb p U f = b := by unfold nb; rw [q1]
 have e2 : ho p U f = out := by unfold ho; rw [q1]
 rw [e1] at hb
 rw [e2]
 exact q3 hb
theorem F0 {fs : FS} {f b : Nat} (h : May fs ofU f b) : May fs oK f b := by
 obtain ⟨g, h1, j, h2, h3⟩ := h
 refine ⟨g, h1, j, h2, ?_⟩
 unfold ofU at h3
 split at h3
 ·rename_i hk
  unfold oK
  rw [if_pos (.inr hk)]; exact h3
 ·simp at h3
theorem AB {t u : W32} (h : ∀ b, ¬ (t.getLsbD b = true ∧ u.getLsbD b = true)) : t &&& ~~~u = t := by
 apply yc
 intro b
 rw [BitVec.getLsbD_and, Bool.and_eq_true]
 constructor
 ·exact fun h => h.1
 ·intro hb
  refine ⟨hb, ?_⟩
  have hb32 : b < 32 := by
   rcases Nat.lt_or_ge b 32 with h | h
   ·exact h
   ·rw [BitVec.getLsbD_of_ge _ _ h] at hb; cases hb
  have hu : u.getLsbD b = false := by
   cases hq : u.getLsbD b with
   | false => rfl
   | true => exact absurd ⟨hb, hq⟩ (h b)
  rw [BitVec.getLsbD_not, hu]
  simp [hb32]
theorem CH {p : ac} {U : List W32} {beh : List Bool} {L sm : W32} (hg : bw p) (hU : Uss p U) (hUb : ∀ f, f < p.funcs.length → ∀ b, (List.getD U f 0#32).getLsbD b = true ↔ May p.funcs oK f b) (hn : ∀ g, g < p.funcs.length → nb p U g = true) {u : List W32} {fm : W32} (hkn : GK p u fm) : GL p (dN p U L beh sm 0 p.funcs.length) u fm := fun f hf => by
 have hl := hg.len f hf
 have lab := Dy hg hU f hf (hn f hf)
 have eh : ∀ i, hld (dN p U L beh sm 0 p.funcs.length) f i = List.getD (ho p U f) i 0#32 := fun i => by
  show List.getD (sec (dN p U L beh sm 0 p.funcs.length) f).held i 0#32 = _
  rw [rl f hf]; rfl
 have hent : ∀ g, g < p.funcs.length → (sec (dN p U L beh sm 0 p.funcs.length) g).entry = 0#32 ∧ (sec (dN p U L beh sm 0 p.funcs.length) g).exit = 0#32 := fun g hgl => by
  rw [rl g hgl]; exact ⟨rfl, rfl⟩
 refine ⟨fun h => h.2 (hent f hf).1, ?_, fun i hi => ?_⟩
 ·rw [eh 0, show List.getD (ho p U f) 0 0#32 = 0#32 from lab.zero]; exact ru _
 ·have hc : (nde p f i).kind = 7 → 0 ≤ (nde p f i).arg ∧ (nde p f i).arg < p.funcs.length := hg.calls f i hf hi
  rw [ti (fun hk => by
   have h1 := hc hk
   rw [(hent _ (by omega)).1]; exact ru _) (fun hk => by rw [(hent f hf).2]; exact ru _), if_pos]
  rw [List.all_eq_true]
  intro y hy
  have hy2 := j5 (hg.node f i hf hi) (by omega) y hy
  rw [eh, eh]
  have hon := lab.on i y.toNat hi (by rw [Int.toNat_of_nonneg hy2.1]; exact hy)
  have hon : List.getD (ho p U f) y.toNat 0#32 = tbh (nde p f i) (List.getD (ho p U f) i 0#32) := hon
  rw [hon]
  have hfi : p6 U (nde p f i) (List.getD (ho p U f) i 0#32) = true := lab.fine i hi
  generalize List.getD (ho p U f) i 0#32 = T at hfi ⊢
  have : tbh (nde p f i) T = bhd u (dN p U L beh sm 0 p.funcs.length) (nde p f i) T := by
   unfold tbh bhd
   by_cases h3 : (nde p f i).kind = 3
   ·rw [if_pos h3, if_pos h3]
   ·rw [if_neg h3, if_neg h3]
    by_cases h4 : (nde p f i).kind = 4
    ·rw [if_pos h4, if_pos h4]
    ·rw [if_neg h4, if_neg h4]
     by_cases h7 : (nde p f i).kind = 7
     ·have h1 := hc h7
      have hex : (List.getD (dN p U L beh sm 0 p.funcs.length) (nde p f i).arg.toNat ae).exit = 0#32 := (hent _ (by omega)).2
      rw [if_pos h7, hex]
      unfold p6 at hfi
      rw [if_neg h3, if_neg h4, if_neg (by omega), if_pos h7, if_pos ⟨h1.1, by rw [hU.len]; exact h1.2⟩] at hfi
      have hfi : T &&& List.getD U (nde p f i).arg.toNat 0#32 = 0#32 := by simpa using hfi
      rw [AB (u := List.getD u (nde p f i).arg.toNat 0#32) fun b hb => ?_]
      ·simp
      ·have hm := F0 ((hkn.ub _ (by omega) b).1 hb.2)
       have h2 := (hUb _ (by omega) b).2 hm
       have h3 := congrArg (fun w : W32 => w.getLsbD b) hfi
       simp only [BitVec.getLsbD_and, hb.1, h2] at h3
       simp at h3
     ·rw [if_neg h7]
  rw [this]
  exact jr.2 fun _ h => h
theorem eR {L : W32} {beh : List Bool} {f i : Nat} : eQ L beh f i = true ↔ L.getLsbD f = true ∨ (f = 0 ∧ List.getD beh i false = true) := by
 unfold eQ
 rw [Bool.or_eq_true, Bool.and_eq_true, decide_eq_true_iff]
theorem me {c : Prop} [Decidable c] {a b : W32} (h : c → dR a b = true) : dR (if c then a else 0#32) b = true := by
 split
 ·exact h ‹_›
 ·exact jr.2 fun i h => by simp at h
theorem BC {c : Prop} [Decidable c] {a : W32} {b : Nat} (h : (if c then a else 0#32).getLsbD b = true) : a.getLsbD b = true := by
 split at h
 ·exact h
 ·simp at h
theorem kJ (a : W32) : dR a a = true := jr.2 fun _ h => h
theorem AC {p : ac} {U : List W32} {beh : List Bool} {E L : W32} (hg : bw p) (hP : rk p beh E L) (hH : Dx p beh E L) (bg : W32) : Fz p (dN p U L beh (eo (p.slots.toNat + 1)) 0 p.funcs.length) bg := fun f hf => by
 have hl := hg.len f hf
 have hn := hg.funcs
 have hsl := hg.slots
 have hsm : ∀ b, b ≤ p.slots.toNat → (eo (p.slots.toNat + 1)).getLsbD b = true := fun b hb => (fe (by omega) b).2 (by omega)
 generalize hsmd : eo (p.slots.toNat + 1) = sm at hsm ⊢
 have hle : ∀ g, g < p.funcs.length → (sec (dN p U L beh sm 0 p.funcs.length) g).liveEntry = (if L.getLsbD g = true then sm else 0#32) ∧ (sec (dN p U L beh sm 0 p.funcs.length) g).liveExit = (if g = 0 ∨ L.getLsbD g = true then sm else 0#32) := fun g hgl => by
  rw [rl g hgl]; exact ⟨rfl, rfl⟩
 refine ⟨?_, fun i hi => ?_⟩
 ·rw [(hle f hf).1, oL f 0 hf hl.1]
  exact me fun h => by rw [if_pos (eR.2 (.inl h))]; exact kJ _
 ·have hok := hg.node f i hf hi
  have hc : (nde p f i).kind = 7 → 0 ≤ (nde p f i).arg ∧ (nde p f i).arg < p.funcs.length := hok.call
  have hs5 : (nde p f i).kind = 5 → 0 ≤ (nde p f i).arg ∧ (nde p f i).arg < p.funcs.length ∧ 0 ≤ (nde p f i).alt ∧ (nde p f i).alt < p.slots := hok.spawn
  have edge : (nde p f i).kind = 7 → Edge p.funcs f (nde p f i).arg.toNat := fun h7 => ⟨i, hi, h7, by have := hc h7; show (nde p f i).arg = _; omega⟩
  have callee : (nde p f i).kind = 7 → eQ L beh f i = true → L.getLsbD (nde p f i).arg.toNat = true := fun h7 h => by
   rcases eR.1 h with h2 | ⟨h1, h2⟩
   ·exact hH.callL f _ hf h2 (edge h7)
   ·subst h1; exact hH.late i hi h7 h2
  have calleeE : (nde p f i).kind = 7 → eQ L beh f i = false → E.getLsbD (nde p f i).arg.toNat = true := fun h7 h => by
   have h1 : ¬ L.getLsbD f = true := fun hL => by rw [eR.2 (.inl hL)] at h; cases h
   rcases Nat.eq_zero_or_pos f with rfl | h0
   ·refine hH.early i hi h7 ?_
    cases hb : List.getD beh i false with
    | false => rfl
    | true => rw [eR.2 (.inr ⟨rfl, hb⟩)] at h; cases h
   ·exact hH.callE f _ hf ((hP.all f h0 hf).resolve_right h1) (edge h7)
  have ne0 : (nde p f i).kind = 7 → (nde p f i).arg.toNat ≠ 0 := fun h7 e => by
   cases h : eQ L beh f i with
   | true => have := callee h7 h; rw [e] at this; exact hP.l0 this
   | false => have := calleeE h7 h; rw [e] at this; exact hP.e0 this
  rw [pY (fun h7 => ?_) (fun h9 => ?_) (fun h5 => ?_), if_pos]
  ·unfold onL
   rw [List.all_eq_true]
   intro y hy
   have hy2 := j5 hok (by omega) y hy
   have hy3 : ((y.toNat : Nat) : Int) ∈ succ (nde p f i) := by rw [Int.toNat_of_nonneg hy2.1]; exact hy
   rw [oL f i hf hi, oL f y.toNat hf (by omega)]
   have next : eQ L beh f i = true → eQ L beh f y.toNat = true := fun h => by
    rcases eR.1 h with h2 | ⟨h1, h2⟩
    ·exact eR.2 (.inl h2)
    ·subst h1; exact eR.2 (.inr ⟨rfl, hH.on i y.toNat hi h2 hy3⟩)
   have plain : dR (if eQ L beh f i = true then sm else 0#32) (if eQ L beh f y.toNat = true then sm else 0#32) = true := me fun h => by rw [if_pos (next h)]; exact kJ _
   unfold lbh
   by_cases h5 : (nde p f i).kind = 5
   ·have h1 := hs5 h5
    have f0 : f = 0 := hP.begins f hf ⟨f, .refl f, i, hi, h5⟩
    subst f0
    have hyl : eQ L beh 0 y.toNat = true := eR.2 (.inr ⟨rfl, hH.spawn i y.toNat hi h5 hy3⟩)
    rw [if_pos h5, if_pos hyl]
    refine jr.2 fun b hb => ?_
    have bit1 : ∀ id : Int, 0 ≤ id → id ≤ p.slots → (one id).getLsbD b = true → sm.getLsbD b = true := fun id h2 h3 hb => by
     have := (jZ id b).1 hb
     exact hsm b (by omega)
    rw [BitVec.getLsbD_or, Bool.or_eq_true, BitVec.getLsbD_or, Bool.or_eq_true] at hb
    rcases hb with (hb | hb) | hb
    ·exact BC hb
    ·exact bit1 _ h1.2.2.1 (by omega) hb
    ·exact bit1 _ hsl.1 (Int.le_refl _) (BC hb)
   ·rw [if_neg h5]
    by_cases h6 : (nde p f i).kind = 6
    ·rw [if_pos h6]
     refine jr.2 fun b hb => ?_
     rw [BitVec.getLsbD_and, Bool.and_eq_true] at hb
     exact jr.1 plain b hb.1
    ·rw [if_neg h6]
     by_cases h7 : (nde p f i).kind = 7
     ·have h1 := hc h7
      rw [if_pos h7]
      unfold xit
      rw [if_pos h7, show (List.getD (dN p U L beh sm 0 p.funcs.length) (nde p f i).arg.toNat ae).liveExit = _ from (hle _ (by omega)).2]
      refine me fun h => ?_
      have hL := h.resolve_left (ne0 h7)
      have hi2 : eQ L beh f i = true := by
       cases hq : eQ L beh f i with
       | true => rfl
       | false => exact absurd ⟨calleeE h7 hq, hL⟩ (hP.both _)
      rw [if_pos (next hi2)]
      exact kJ _
     ·rw [if_neg h7]
      exact plain
  ·have h1 := hc h7
   rw [oL f i hf hi, (hle _ (by omega)).1]
   exact me fun h => by rw [if_pos (callee h7 h)]; exact kJ _
  ·rw [oL f i hf hi, (hle f hf).2]
   refine me fun h => ?_
   rw [if_pos]
   ·exact kJ _
   ·rcases eR.1 h with h | ⟨h, _⟩
    ·exact .inr h
    ·exact .inl h
  ·have h1 := hs5 h5
   have hb : L.getLsbD (nde p f i).arg.toNat = true := hH.begun _ (by omega) ⟨f, hf, i, hi, h5, by show (nde p f i).arg = _; omega⟩
   rw [(hle _ (by omega)).1, if_pos hb]
   unfold i6
   rw [if_pos (by omega)]
   exact hsm _ (Nat.le_refl _)
theorem pU (p : ac) (l : List ad) : ∀ (m g j : Nat), j < m → List.getD (nH p l g m) j ak = tr ((gn p l ((g + j : Nat) : Int)).getD 0)
 | 0, g, j, h => by omega
 | m + 1, g, 0, h => rfl
 | m + 1, g, j + 1, h => by
  have := pU p l m (g + 1) j (by omega)
  rw [show g + 1 + j = g + (j + 1) by omega] at this
  exact this
theorem tf (p : ac) (l : List ad) : ∀ (m g : Nat), (nH p l g m).length = m
 | 0, _ => rfl
 | m + 1, g => by simp [nH, tf p l m (g + 1)]
theorem AD {p : ac} (hg : bw p) (l : List ad) (h : ∀ k, k < p.globals.toNat → gn p l (k : Int) ≠ none) : (eJ p l (nH p l 0 p.globals.toNat)).what = 0 := by
 have hlk := hg.locks
 have hgl := hg.globals
 have best : ∀ k, k < p.globals.toNat → ∃ t, gn p l (k : Int) = some t ∧ t < 2 + p.locks.toNat ∧ okJ p l (k : Int) (tr t) = true := fun k hk => by
  cases hb : gn p l (k : Int) with
  | none => exact absurd hb (h k hk)
  | some t =>
   have := rp (show i4 _ 0 _ = some t from hb)
   exact ⟨t, rfl, by omega, this.2.2⟩
 refine Do.2 ⟨fun i hi => ?_, fun f i hf hi => ?_⟩
 ·rw [tf] at hi
  obtain ⟨t, t1, t2, t3⟩ := best i hi
  rw [pU p l _ 0 i hi, Nat.zero_add, t1]
  show oJ (tr t) p.locks = true
  unfold tr
  split
  ·rfl
  ·split
   ·rfl
   ·show (if (2 : Int) = 2 then _ else _) = true
    rw [if_pos rfl, Bool.and_eq_true, decide_eq_true_iff, decide_eq_true_iff]
    constructor
    ·show (0 : Int) ≤ ((t - 2 : Nat) : Int); omega
    ·show ((t - 2 : Nat) : Int) < p.locks; omega
 ·unfold grd
  cases ha : acc (nde p f i) with
  | false => rfl
  | true =>
   have hgb := (hg.node f i hf hi).glob (by simpa [acc] using ha)
   have hgb : 0 ≤ (nde p f i).arg ∧ (nde p f i).arg < p.globals := hgb
   obtain ⟨t, t1, t2, t3⟩ := best (nde p f i).arg.toNat (by omega)
   have h2 := iY.1 t3 f i hf hi
   have ej : jus (nH p l 0 p.globals.toNat) (nde p f i).arg = tr t := by
    show List.getD _ (nde p f i).arg.toNat ak = _
    rw [pU p l _ 0 _ (by omega), Nat.zero_add, t1]; rfl
   rw [ej]
   unfold rj at h2
   rw [ha, show ((nde p f i).arg == ((nde p f i).arg.toNat : Int)) = true by rw [beq_iff_eq]; omega] at h2
   simpa using h2
theorem vO {p : ac} {U : List W32} {beh : List Bool} {E L : W32} (hg : bw p) (hk : ay p = some (0, 0, 0)) (hU : Uss p U) (hUb : ∀ f, f < p.funcs.length → ∀ b, (List.getD U f 0#32).getLsbD b = true ↔ May p.funcs oK f b) {e : Int} (hpart : fZ p = some (E, L, e, beh)) (hD : ur p U beh E L (dN p U L beh (eo (p.slots.toNat + 1)) 0 p.funcs.length)) :
  cm p ⟨iE (gc p), dN p U L beh (eo (p.slots.toNat + 1)) 0 p.funcs.length, nH p (dN p U L beh (eo (p.slots.toNat + 1)) 0 p.funcs.length) 0 p.globals.toNat⟩ = some true := by
 have hgl := hg.globals
 have hH := ET hg hk hpart
 obtain ⟨u, fm, hkn, k1, _⟩ := CU p hg hk
 obtain ⟨bg, hbg, k2, _⟩ := DU p hg hk
 have hs := zt p hg hU L beh (eo (p.slots.toNat + 1))
 have hF := CH (L := L) (beh := beh) (sm := eo (p.slots.toNat + 1)) hg hU hUb hD.nest hkn
 have hFL := AC (U := U) hg hD.part hH bg
 have hm := k1 _ hs
 have hy := k2 _ hs
 rw [E6 hs.1 hF] at hm
 rw [DV hs.1 hFL] at hy
 rw [xQ p hg hk ⟨iE (gc p), _, _⟩ hs (by show ((nH p _ 0 p.globals.toNat).length : Int) = p.globals; rw [tf]; omega) _ _ hm hy]
 have : (iF p ⟨iE (gc p), dN p U L beh (eo (p.slots.toNat + 1)) 0 p.funcs.length, nH p (dN p U L beh (eo (p.slots.toNat + 1)) 0 p.funcs.length) 0 p.globals.toNat⟩ ⟨0, 0, 0⟩ ⟨0, 0, 0⟩).what = 0 := (CE _ _ _ _).2 ⟨fun i _ => rfl, rfl, rfl, AD hg _ hD.just⟩
 rw [this]
 rfl
def spw : Nat → Nat → Nat → List aa
 | _, _, 0 => []
 | a, i, m + 1 => ⟨5, ((1 + i : Nat) : Int), ((a + 1 : Nat) : Int), ((i % 8 : Nat) : Int)⟩ :: spw (a + 1) (i + 1) m
def ear (e : Bool) : List aa := match e with | true => [⟨2, 0, 1, 0⟩] | false => []
abbrev thr (own : Nat) : List aa := [⟨3, (own : Int), 1, 0⟩, ⟨2, 0, 2, 0⟩, ⟨4, (own : Int), 3, 0⟩, ⟨9, 0, 0, 0⟩]
abbrev wrt : List aa := [⟨2, 0, 1, 0⟩, ⟨9, 0, 0, 0⟩]
def dm (n : Nat) (e : Bool) : List aa := ear e ++ spw (ear e).length 0 n ++ [⟨9, 0, 0, 0⟩]
def fL (n own : Nat) (e : Bool) : FS := dm n e :: List.replicate n (thr own)
abbrev fam (n own : Nat) (e : Bool) : ac := ⟨1, 16, 8, fL n own e⟩
abbrev bad (n own : Nat) (e : Bool) (w : Nat) : ac := ⟨1, 16, 8, (fL n own e).set (1 + w) wrt⟩
theorem iZ : ∀ (m a i : Nat), (spw a i m).length = m
 | 0, _, _ => rfl
 | m + 1, a, i => by simp [spw, iZ m (a + 1) (i + 1)]
theorem BD : ∀ (m a i j : Nat), j < m → List.getD (spw a i m) j ab = ⟨5, ((1 + (i + j) : Nat) : Int), ((a + j + 1 : Nat) : Int), (((i + j) % 8 : Nat) : Int)⟩
 | 0, a, i, j, h => by omega
 | m + 1, a, i, 0, h => rfl
 | m + 1, a, i, j + 1, h => by
  have := BD m (a + 1) (i + 1) j (by omega)
  rw [show i + 1 + j = i + (j + 1) by omega, show a + 1 + j = a + (j + 1) by omega] at this
  exact this
theorem kK (n : Nat) (e : Bool) : (dm n e).length = (ear e).length + n + 1 := by simp [dm, iZ]; omega
theorem BE (e : Bool) : (ear e).length ≤ 1 := by cases e <;> simp [ear]
theorem F1 {α : Type} (l m : List α) (j : Nat) (d : α) (h : j < l.length) : List.getD (l ++ m) j d = List.getD l j d := by simp [List.getD, List.getElem?_append_left h]
theorem GE {α : Type} (l m : List α) (j : Nat) (d : α) (h : l.length ≤ j) : List.getD (l ++ m) j d = List.getD m (j - l.length) d := by simp [List.getD, List.getElem?_append_right h]
theorem m9 (n : Nat) (e : Bool) (i : Nat) (hi : i < (dm n e).length) :
  (i < (ear e).length ∧ i = 0 ∧ List.getD (dm n e) i ab = ⟨2, 0, 1, 0⟩) ∨
  ((ear e).length ≤ i ∧ i < (ear e).length + n ∧ List.getD (dm n e) i ab = ⟨5, ((1 + (i - (ear e).length) : Nat) : Int), ((i + 1 : Nat) : Int), (((i - (ear e).length) % 8 : Nat) : Int)⟩) ∨
  (i = (ear e).length + n ∧ List.getD (dm n e) i ab = ⟨9, 0, 0, 0⟩) := by
 rw [kK] at hi
 have hl := BE e
 by_cases h1 : i < (ear e).length
 ·refine .inl ⟨h1, by omega, ?_⟩
  unfold dm
  rw [F1 _ _ _ _ (by simp [iZ]; omega), F1 _ _ _ _ h1]
  have : i = 0 := by omega
  subst this
  cases e with
  | true => rfl
  | false => exact absurd h1 (by decide)
 ·by_cases h2 : i < (ear e).length + n
  ·refine .inr (.inl ⟨by omega, h2, ?_⟩)
   unfold dm
   rw [F1 _ _ _ _ (by simp [iZ]; omega), GE _ _ _ _ (by omega), BD _ _ _ _ (by omega), Nat.zero_add, show (ear e).length + (i - (ear e).length) + 1 = i + 1 by omega]
  ·have h3 : i = (ear e).length + n := by omega
   refine .inr (.inr ⟨h3, ?_⟩)
   unfold dm
   rw [GE _ _ _ _ (by simp [iZ]; omega)]
   have : i - (ear e ++ spw (ear e).length 0 n).length = 0 := by simp [iZ]; omega
   rw [this]; rfl
theorem fX {n : Nat} {e : Bool} {i : Nat} (hi : i < (dm n e).length) : (List.getD (dm n e) i ab).kind ≠ 7 ∧ (List.getD (dm n e) i ab).kind ≠ 3 ∧ (List.getD (dm n e) i ab).kind ≠ 4 ∧ (((List.getD (dm n e) i ab).kind = 1 ∨ (List.getD (dm n e) i ab).kind = 2) → i = 0) := by
 rcases m9 n e i hi with ⟨_, h, q⟩ | ⟨_, _, q⟩ | ⟨_, q⟩ <;> rw [q]
 ·exact ⟨by show (2 : Int) ≠ 7; decide, by show (2 : Int) ≠ 3; decide, by show (2 : Int) ≠ 4; decide, fun _ => h⟩
 ·exact ⟨by show (5 : Int) ≠ 7; decide, by show (5 : Int) ≠ 3; decide, by show (5 : Int) ≠ 4; decide, fun h2 => absurd h2 (by show ¬ ((5 : Int) = 1 ∨ (5 : Int) = 2); decide)⟩
 ·exact ⟨by show (9 : Int) ≠ 7; decide, by show (9 : Int) ≠ 3; decide, by show (9 : Int) ≠ 4; decide, fun h2 => absurd h2 (by show ¬ ((9 : Int) = 1 ∨ (9 : Int) = 2); decide)⟩
theorem CI {n : Nat} {e : Bool} {i y : Nat} (hi : i < (dm n e).length) (hy : (y : Int) ∈ succ (List.getD (dm n e) i ab)) : y = i + 1 ∧ i + 1 < (dm n e).length := by
 have hl := kK n e
 rcases m9 n e i hi with ⟨h1, h, q⟩ | ⟨h1, h2, q⟩ | ⟨_, q⟩ <;> rw [q] at hy
 ·unfold succ at hy
  rw [if_neg (by decide), if_neg (by decide)] at hy
  have hy : (y : Int) = 1 := by simpa using hy
  omega
 ·unfold succ at hy
  rw [if_neg (by show ¬ (5 : Int) = 9; decide), if_neg (by show ¬ (5 : Int) = 8; decide)] at hy
  have hy : (y : Int) = ((i + 1 : Nat) : Int) := List.mem_singleton.1 hy
  omega
 ·unfold succ at hy
  rw [if_pos (by decide)] at hy
  cases hy
theorem CJ {n : Nat} {e : Bool} {i : Nat} (hi : i + 1 < (dm n e).length) : ((i + 1 : Nat) : Int) ∈ succ (List.getD (dm n e) i ab) := by
 have hl := kK n e
 rcases m9 n e i (by omega) with ⟨h1, h, q⟩ | ⟨h1, h2, q⟩ | ⟨h1, q⟩
 ·rw [q, h]; decide
 ·rw [q]; unfold succ
  rw [if_neg (by show ¬ (5 : Int) = 9; decide), if_neg (by show ¬ (5 : Int) = 8; decide)]
  exact List.mem_singleton.2 rfl
 ·omega
theorem BF {n : Nat} {e : Bool} : ∀ i, i < (dm n e).length → Go1 (dm n e) i
 | 0, _ => .start
 | i + 1, h => .on i (i + 1) (BF i (by omega)) (by omega) (CJ h)
theorem na (n own : Nat) (e : Bool) : (fL n own e).length = n + 1 := by simp [fL]
theorem Fw (n own : Nat) (e : Bool) : List.getD (fL n own e) 0 [] = dm n e := rfl
theorem BG {n own f : Nat} {e : Bool} (h0 : 0 < f) (h : f < n + 1) : List.getD (fL n own e) f [] = thr own := by
 obtain ⟨g, rfl⟩ : ∃ g, f = g + 1 := ⟨f - 1, by omega⟩
 show List.getD (List.replicate n (thr own)) g [] = _
 simp only [List.getD, List.getElem?_replicate]
 rw [if_pos (by omega)]; rfl
theorem Dz {n own w f : Nat} {e : Bool} (hw : w < n) : List.getD ((fL n own e).set (1 + w) wrt) f [] = if f = 1 + w then wrt else List.getD (fL n own e) f [] := by
 have hl := na n own e
 by_cases h : f = 1 + w
 ·subst h; rw [if_pos rfl]; simp [List.getD, List.getElem?_set, show 1 + w < (fL n own e).length by omega]
 ·rw [if_neg h]
  simp only [List.getD, List.getElem?_set]
  rw [if_neg (fun h' => h h'.symm)]
theorem xT (x0 : FS) (x2 x3 x4 : Int) (x5 : B8) (n : Nat) (hn : n ≤ 7) (x7 : Int) : ∀ (m i : Nat) (x1 : List aa), i + m = n → x1.length ≤ i + 1 → aW x0 x1 x2 x3 x4 x5 (n : Int) x7 (i : Int) = some (x1 ++ spw x1.length i m)
 | 0, i, x1, h, hl => by
  rw [aW, iN (by omega)]
  simp [spw]
 | m + 1, i, x1, h, hl => by
  have e1 : am 1 (i : Int) = ((1 + i : Nat) : Int) := by rw [j7 (by omega) (by omega)]; omega
  have e2 : dH (i : Int) 8 = ((i % 8 : Nat) : Int) := te i 8
  have hsz : ∀ s : aa, Nat.ble ((x1.length + [s].length) * 32) aF = true := fun s => Nat.ble_eq_true_of_le (by simp only [List.length_singleton, aF]; omega)
  rw [aW, iP (by omega), if_pos (hsz _), e1, e2, inc x1.length (by omega), inc i (by omega), xT x0 x2 x3 x4 x5 n hn x7 m (i + 1) _ (by omega) (by simp; omega), List.append_assoc]
  congr 1
  simp [spw]
theorem BH (x1 x2 x3 : Int) (x4 : B8) (n own : Nat) (hn : n ≤ 7) : ∀ (m i : Nat) (x0 : FS), i + m = n → x0.length ≤ i + 1 → aJ x0 x1 x2 x3 x4 (n : Int) (own : Int) (i : Int) = some (x0 ++ List.replicate m (thr own))
 | 0, i, x0, h, hl => by
  rw [aJ, iN (by omega)]
  simp
 | m + 1, i, x0, h, hl => by
  have hsz : ∀ s : List aa, Nat.ble ((x0.length + [s].length) * 24) aF = true := fun s => Nat.ble_eq_true_of_le (by simp only [List.length_singleton, aF]; omega)
  rw [aJ, iP (by omega), if_pos (hsz _), inc i (by omega), BH x1 x2 x3 x4 n own hn m (i + 1) _ (by omega) (by simp; omega), List.append_assoc, List.replicate_succ]
  rfl
def okB (r : Option (Int × Int × Int)) : Bool := match r with
 | some (a, b, c) => a == 0 && b == 0 && c == 0
 | none => false
theorem xU {r : Option (Int × Int × Int)} (h : okB r = true) : r = some (0, 0, 0) := by
 unfold okB at h
 split at h
 ·simp only [Bool.and_eq_true, beq_iff_eq] at h
  obtain ⟨⟨rfl, rfl⟩, rfl⟩ := h
  rfl
 ·cases h
theorem ut {q : Nat → Bool} {n : Nat} (h : (List.range n).all q = true) {k : Nat} (hk : k < n) : q k = true := List.all_eq_true.1 h k (List.mem_range.2 hk)
theorem EU : ((List.range 6).all fun n => (List.range 16).all fun own => okB (gq 60 (fam (n + 2) own true)) && okB (gq 60 (fam (n + 2) own false))) = true := by kernel_rfl
theorem EV : ((List.range 6).all fun n => (List.range 16).all fun own => (List.range (n + 2)).all fun w => okB (gq 60 (bad (n + 2) own true w)) && okB (gq 60 (bad (n + 2) own false w))) = true := by kernel_rfl
theorem CK {n own : Nat} (hn : n < 6) (ho : own < 16) (e : Bool) : ay (fam (n + 2) own e) = some (0, 0, 0) := by
 have h := ut (ut EU hn) ho
 rw [Bool.and_eq_true] at h
 cases e with
 | true => exact ia 60 _ _ (xU h.1)
 | false => exact ia 60 _ _ (xU h.2)
theorem CL {n own w : Nat} (hn : n < 6) (ho : own < 16) (hw : w < n + 2) (e : Bool) : ay (bad (n + 2) own e w) = some (0, 0, 0) := by
 have h := ut (ut (ut EV hn) ho) hw
 rw [Bool.and_eq_true] at h
 cases e with
 | true => exact ia 60 _ _ (xU h.1)
 | false => exact ia 60 _ _ (xU h.2)
theorem BI {p : ac} (h : ay p = some (0, 0, 0)) : bw p := by
 obtain ⟨r, h1, h2, _⟩ := CO p
 rw [h] at h1
 cases h1
 exact (h2 rfl).2
theorem rm {n own f j : Nat} {e : Bool} (h0 : 0 < f) (hj : j < (List.getD (fL n own e) f []).length) : List.getD (fL n own e) f [] = thr own ∧ j < 4 := by
 rcases Nat.lt_or_ge f (n + 1) with h | h
 ·rw [BG h0 h] at hj ⊢
  exact ⟨rfl, hj⟩
 ·have : List.getD (fL n own e) f [] = [] := by
   have hl := na n own e
   simp only [List.getD, List.getElem?_eq_none (show (fL n own e).length ≤ f by omega)]; rfl
  rw [this] at hj
  exact absurd hj (Nat.not_lt_zero j)
theorem DA {own j : Nat} (h : j < 4) : (List.getD (thr own) j ab).kind ≠ 7 ∧ (List.getD (thr own) j ab).kind ≠ 5 := by
 match j, h with
 | 0, _ => exact ⟨by show (3 : Int) ≠ 7; decide, by show (3 : Int) ≠ 5; decide⟩
 | 1, _ => exact ⟨by show (2 : Int) ≠ 7; decide, by show (2 : Int) ≠ 5; decide⟩
 | 2, _ => exact ⟨by show (4 : Int) ≠ 7; decide, by show (4 : Int) ≠ 5; decide⟩
 | 3, _ => exact ⟨by show (9 : Int) ≠ 7; decide, by show (9 : Int) ≠ 5; decide⟩
theorem DB {n own : Nat} {e : Bool} (f g : Nat) : ¬ Edge (fL n own e) f g := by
 rintro ⟨i, h1, h2, _⟩
 rcases Nat.eq_zero_or_pos f with rfl | h0
 ·exact (fX h1).1 h2
 ·obtain ⟨q, q2⟩ := rm h0 h1
  rw [q] at h2
  exact (DA q2).1 h2
theorem zv {n own : Nat} {e : Bool} {f g : Nat} (h : jK (fL n own e) f g) : g = f := by
 cases h with
 | refl => rfl
 | step _ b _ h1 _ => exact absurd h1 (DB _ _)
theorem xb {n own : Nat} {e : Bool} {g : Nat} : xh (fL n own e) g ↔ 1 ≤ g ∧ g ≤ n := by
 constructor
 ·rintro ⟨f, _, j, h1, h2, h3⟩
  rcases Nat.eq_zero_or_pos f with rfl | h0
  ·have h1 : j < (dm n e).length := h1
   rcases m9 n e j h1 with ⟨_, _, q⟩ | ⟨k1, k2, q⟩ | ⟨_, q⟩
   ·have : (List.getD (dm n e) j ab).kind = 5 := h2
    rw [q] at this
    exact absurd this (by decide)
   ·have : (List.getD (dm n e) j ab).arg = (g : Int) := h3
    rw [q] at this
    have : ((1 + (j - (ear e).length) : Nat) : Int) = (g : Int) := this
    omega
   ·have : (List.getD (dm n e) j ab).kind = 5 := h2
    rw [q] at this
    exact absurd this (by decide)
  ·obtain ⟨q, q2⟩ := rm h0 h1
   rw [q] at h2
   exact absurd h2 (DA q2).2
 ·rintro ⟨h1, h2⟩
  have hl := kK n e
  refine ⟨0, by rw [na]; omega, (ear e).length + (g - 1), by rw [Fw]; omega, ?_⟩
  rw [Fw]
  rcases m9 n e ((ear e).length + (g - 1)) (by omega) with ⟨h, _, _⟩ | ⟨_, _, q⟩ | ⟨h, _⟩
  ·omega
  ·rw [q]
   refine ⟨rfl, ?_⟩
   show ((1 + ((ear e).length + (g - 1) - (ear e).length) : Nat) : Int) = (g : Int)
   omega
  ·omega
theorem DC {own : Nat} (h : own < 32) : (one (own : Int)).getLsbD own = true := (jZ _ _).2 ⟨by omega, h⟩
theorem Fx {p : ac} (hg : bw p) {U : List W32} {f : Nat} (hf : f < p.funcs.length) {T : Nat → W32} (h : Lab (List.getD p.funcs f []) U T) : nb p U f = true ∧ ∀ i, i < (List.getD p.funcs f []).length → List.getD (ho p U f) i 0#32 = T i := by
 have hl := hg.len f hf
 obtain ⟨b, out, q1, q2, q3, q4⟩ := oO (List.getD p.funcs f []) U hl.1 (by omega) (fun i hi y hy => j5 (hg.node f i hf hi) (by omega) y hy)
 have e1 : nb p U f = b := by unfold nb; rw [q1]
 have e2 : ho p U f = out := by unfold ho; rw [q1]
 rw [e1, e2]
 exact q4 T h
theorem DD (n : Nat) (e : Bool) (U : List W32) : Lab (dm n e) U (fun _ => 0#32) := ⟨rfl, BF, fun i hi => by
 obtain ⟨h1, h2, h3, _⟩ := fX hi
 unfold p6
 rw [if_neg h2, if_neg h3, if_neg h1]
 split <;> rfl, fun i y hi _ => by
 obtain ⟨_, h2, h3, _⟩ := fX hi
 unfold tbh
 rw [if_neg h2, if_neg h3]⟩
def DE (own : Nat) (i : Nat) : W32 := if i = 1 ∨ i = 2 then one (own : Int) else 0#32
theorem EW {own : Nat} (hown : own < 32) (U : List W32) : Lab (thr own) U (DE own) := by
 have hne : ¬ (one (own : Int)) = 0#32 := fun h => by have := DC hown; rw [h] at this; simp at this
 have s0 : succ (List.getD (thr own) 0 ab) = [1] := rfl
 have s1 : succ (List.getD (thr own) 1 ab) = [2] := rfl
 have s2 : succ (List.getD (thr own) 2 ab) = [3] := rfl
 have s3 : succ (List.getD (thr own) 3 ab) = [] := rfl
 refine ⟨rfl, fun i hi => ?_, fun i hi => ?_, fun i y hi hy => ?_⟩
 ·have g1 : Go1 (thr own) 1 := .on 0 1 .start (by show 0 < 4; decide) (by rw [s0]; simp)
  have g2 : Go1 (thr own) 2 := .on 1 2 g1 (by show 1 < 4; decide) (by rw [s1]; simp)
  have g3 : Go1 (thr own) 3 := .on 2 3 g2 (by show 2 < 4; decide) (by rw [s2]; simp)
  match i, hi with
  | 0, _ => exact .start
  | 1, _ => exact g1
  | 2, _ => exact g2
  | 3, _ => exact g3
 ·match i, hi with
  | 0, _ => show (0#32 &&& one (own : Int) == 0#32) = true; simp
  | 1, _ => rfl
  | 2, _ => show (one (own : Int) &&& one (own : Int) != 0#32) = true; simpa using hne
  | 3, _ => rfl
 ·match i, hi with
  | 0, _ =>
   rw [s0] at hy
   have hy1 : (y : Int) = 1 := by simpa using hy
   have : y = 1 := by omega
   subst this
   show one (own : Int) = 0#32 ||| one (own : Int)
   simp
  | 1, _ =>
   rw [s1] at hy
   have hy1 : (y : Int) = 2 := by simpa using hy
   have : y = 2 := by omega
   subst this
   rfl
  | 2, _ =>
   rw [s2] at hy
   have hy1 : (y : Int) = 3 := by simpa using hy
   have : y = 3 := by omega
   subst this
   show 0#32 = one (own : Int) &&& ~~~(one (own : Int))
   simp
  | 3, _ => rw [s3] at hy; cases hy
theorem GF : eo 9 ≠ 0#32 := fun h => by
 have := (fe (n := 9) (by decide) 0).2 (by decide)
 rw [h] at this
 simp at this
theorem DF {own : Nat} (hown : own < 16) (w : Bool) (l : W32) : fW (tr (own + 2)) w (one (own : Int)) l = true := by
 unfold fW
 split
 ·rfl
 ·have e : tr (own + 2) = ⟨2, (own : Int)⟩ := by unfold tr; rw [if_neg (by omega), if_neg (by omega)]; rfl
  rw [e, if_neg (by show ¬ (2 : Int) = 1; decide), if_pos (by rfl)]
  unfold i6
  show (if 0 ≤ (own : Int) ∧ (own : Int) < 32 then (one (own : Int)).getLsbD (own : Int).toNat else false) = true
  rw [if_pos (by omega), Int.toNat_natCast]
  exact DC (by omega)
theorem BJ {h : W32} {t : Nat} (ht : t < 18) (hh : ∀ k, t = k + 2 → h.getLsbD k = false) {l : W32} (hl : l ≠ 0#32) : fW (tr t) true h l = false := by
 unfold fW
 rw [if_neg hl]
 match t, ht with
 | 0, _ => rfl
 | 1, _ => rfl
 | k + 2, hk =>
  have e : tr (k + 2) = ⟨2, (k : Int)⟩ := by unfold tr; rw [if_neg (by omega), if_neg (by omega)]; rfl
  rw [e, if_neg (by show ¬ (2 : Int) = 1; decide), if_pos (by rfl)]
  unfold i6
  show (if 0 ≤ (k : Int) ∧ (k : Int) < 32 then h.getLsbD (k : Int).toNat else false) = false
  rw [if_pos (by omega), Int.toNat_natCast]
  exact hh k rfl
theorem DG {n own : Nat} {e : Bool} (hn1 : 1 ≤ n) (hown : own < 16) (hg : bw (fam n own e)) {U : List W32} {beh : List Bool} {E L : W32} (hU : Uss (fam n own e) U) (hH : Dx (fam n own e) beh E L) :
  ur (fam n own e) U beh E L (dN (fam n own e) U L beh (eo 9) 0 (fam n own e).funcs.length) ∧ gn (fam n own e) (dN (fam n own e) U L beh (eo 9) 0 (fam n own e).funcs.length) 0 = some (own + 2) := by
 have hl : (fam n own e).funcs.length = n + 1 := na n own e
 have hE : ∀ b, ¬ E.getLsbD b = true := fun b h => by
  obtain ⟨i, h1, h2⟩ := hH.eu b h
  exact (fX h1).1 h2
 have hL : ∀ b, L.getLsbD b = true ↔ 1 ≤ b ∧ b ≤ n := fun b => by
  constructor
  ·intro h
   obtain ⟨z, h1, h2⟩ := hH.lu b h
   rw [zv h2]
   rcases h1 with h1 | ⟨i, h1, h3⟩
   ·exact xb.1 h1
   ·exact absurd h3 (fX h1).1
  ·intro h
   exact hH.begun b (by rw [hl]; omega) (xb.2 h)
 have hB : ∀ j, List.getD beh j false = true → 0 < j := fun j h => by
  obtain ⟨i, h1, _, h2⟩ := hH.bu j h
  have := (CI h1 h2).1
  omega
 have nm := Fx hg (f := 0) (U := U) (by rw [hl]; omega) (DD n e U)
 have nt : ∀ f, 0 < f → f < n + 1 → nb (fam n own e) U f = true ∧ ∀ i, i < 4 → List.getD (ho (fam n own e) U f) i 0#32 = DE own i := fun f h0 h1 => by
  have hq := BG (own := own) (e := e) h0 h1
  have := Fx hg (f := f) (U := U) (by rw [hl]; exact h1) (T := DE own) (by show Lab (List.getD (fL n own e) f []) U _; rw [hq]; exact EW (by omega) U)
  refine ⟨this.1, fun i hi => this.2 i ?_⟩
  show i < (List.getD (fL n own e) f []).length
  rw [hq]; exact hi
 have hnest : ∀ g, g < (fam n own e).funcs.length → nb (fam n own e) U g = true := fun g hgl => by
  rw [hl] at hgl
  rcases Nat.eq_zero_or_pos g with rfl | h0
  ·exact nm.1
  ·exact (nt g h0 hgl).1
 have hpart : rk (fam n own e) beh E L := by
  refine ⟨fun b hb hs => ?_, fun b h => hE b h.1, hE 0, fun h => absurd ((hL 0).1 h).1 (by decide), fun b h0 h1 => .inr ((hL b).2 (by rw [hl] at h1; omega)), fun j hj hb => ?_⟩
  ·obtain ⟨g, g1, j, j1, j2⟩ := hs
   have := zv g1
   subst this
   rcases Nat.eq_zero_or_pos g with h | h0
   ·exact h
   ·obtain ⟨q, q2⟩ := rm h0 j1
    rw [q] at j2
    exact absurd j2 (DA q2).2
  ·have hk := fX (n := n) (e := e) hj
   refine ⟨?_, fun h7 => absurd h7 hk.1⟩
   have hj0 := hB j hb
   cases ha : acc (nde (fam n own e) 0 j) with
   | false => rfl
   | true =>
    unfold acc at ha
    rw [Bool.or_eq_true, beq_iff_eq, beq_iff_eq] at ha
    have := hk.2.2.2 ha
    omega
 have hlv : ∀ f i, f < n + 1 → i < (List.getD (fL n own e) f []).length → liv (dN (fam n own e) U L beh (eo 9) 0 (fam n own e).funcs.length) f i = if eQ L beh f i = true then eo 9 else 0#32 := fun f i hf hi => oL (p := fam n own e) f i (by rw [hl]; exact hf) hi
 have hhd : ∀ f i, f < n + 1 → hld (dN (fam n own e) U L beh (eo 9) 0 (fam n own e).funcs.length) f i = List.getD (ho (fam n own e) U f) i 0#32 := fun f i hf => by
  show List.getD (sec (dN (fam n own e) U L beh (eo 9) 0 (fam n own e).funcs.length) f).held i 0#32 = _
  rw [rl (p := fam n own e) f (by rw [hl]; exact hf)]; rfl
 have hbest : gn (fam n own e) (dN (fam n own e) U L beh (eo 9) 0 (fam n own e).funcs.length) 0 = some (own + 2) := by
  generalize hsd : dN (fam n own e) U L beh (eo 9) 0 (fam n own e).funcs.length = l at hlv hhd ⊢
  unfold gn
  refine pT (Nat.zero_le _) (by show own + 2 < 0 + (2 + 16); omega) (iY.2 fun f i hf hi => ?_) fun j _ hj => ?_
  ·rw [hl] at hf
   unfold rj
   cases ha : acc (nde (fam n own e) f i) with
   | false => rfl
   | true =>
    unfold acc at ha
    rw [Bool.or_eq_true, beq_iff_eq, beq_iff_eq] at ha
    rcases Nat.eq_zero_or_pos f with rfl | h0
    ·have hi0 := (fX (n := n) (e := e) hi).2.2.2 ha
     subst hi0
     have hnl : eQ L beh 0 0 = false := by
      cases hq : eQ L beh 0 0 with
      | false => rfl
      | true =>
       rcases eR.1 hq with h | ⟨_, h⟩
       ·exact absurd ((hL 0).1 h).1 (by decide)
       ·exact absurd (hB 0 h) (by decide)
     rw [hlv 0 0 (by omega) hi, if_neg (by rw [hnl]; decide)]
     unfold fW
     rw [if_pos rfl]
     simp
    ·have hq := BG (own := own) (e := e) h0 hf
     have hi4 : i < 4 := by
      have hi : i < (List.getD (fL n own e) f []).length := hi
      rw [hq] at hi; exact hi
     have hi1 : i = 1 := by
      have ha : (List.getD (List.getD (fL n own e) f []) i ab).kind = 1 ∨ (List.getD (List.getD (fL n own e) f []) i ab).kind = 2 := ha
      rw [hq] at ha
      match i, hi4 with
      | 0, _ => exact absurd ha (by show ¬ ((3 : Int) = 1 ∨ (3 : Int) = 2); decide)
      | 1, _ => rfl
      | 2, _ => exact absurd ha (by show ¬ ((4 : Int) = 1 ∨ (4 : Int) = 2); decide)
      | 3, _ => exact absurd ha (by show ¬ ((9 : Int) = 1 ∨ (9 : Int) = 2); decide)
     subst hi1
     rw [hhd f 1 hf, (nt f h0 hf).2 1 (by decide), show DE own 1 = one (own : Int) from rfl, DF hown]
     simp
  ·cases hq : okJ (fam n own e) l 0 (tr j) with
   | false => rfl
   | true =>
    exfalso
    have h1 : 1 < n + 1 := by omega
    have hq1 := BG (own := own) (e := e) (show 0 < 1 by decide) h1
    have hb := iY.1 hq 1 1 (by rw [hl]; exact h1) (by show 1 < (List.getD (fL n own e) 1 []).length; rw [hq1]; show 1 < 4; decide)
    have hnd : nde (fam n own e) 1 1 = ⟨2, 0, 2, 0⟩ := by
     show List.getD (List.getD (fL n own e) 1 []) 1 ab = _
     rw [hq1]; rfl
    unfold rj at hb
    rw [hnd, hhd 1 1 h1, (nt 1 (by decide) h1).2 1 (by decide), hlv 1 1 h1 (by rw [hq1]; show 1 < 4; decide), if_pos (eR.2 (.inl ((hL 1).2 (by omega)))), show DE own 1 = one (own : Int) from rfl] at hb
    have := BJ (h := one (own : Int)) (t := j) (by omega) (fun k hk => by
     cases hz : (one (own : Int)).getLsbD k with
     | false => rfl
     | true => have := (jZ _ _).1 hz; omega) GF
    rw [show (((⟨2, 0, 2, 0⟩ : aa).kind == 2) = true) from rfl, this] at hb
    exact absurd hb (by decide)
 refine ⟨⟨hnest, fun k hk => ?_, hpart⟩, hbest⟩
 have : k = 0 := by have : k < 1 := hk; omega
 subst this
 rw [show ((0 : Nat) : Int) = 0 from rfl, hbest]
 exact fun h => by cases h
theorem DH {n own w : Nat} {e : Bool} (hw : w < n) (hg : bw (bad n own e w)) {U : List W32} {beh : List Bool} {E L : W32} (hU : Uss (bad n own e w) U) (hH : Dx (bad n own e w) beh E L) : ¬ ur (bad n own e w) U beh E L (dN (bad n own e w) U L beh (eo 9) 0 (bad n own e w).funcs.length) := by
 intro hD
 have hl : (bad n own e w).funcs.length = n + 1 := by show ((fL n own e).set (1 + w) wrt).length = _; rw [List.length_set]; exact na n own e
 have hf : 1 + w < (bad n own e w).funcs.length := by rw [hl]; omega
 have hq : List.getD (bad n own e w).funcs (1 + w) [] = wrt := by
  show List.getD ((fL n own e).set (1 + w) wrt) (1 + w) [] = _
  rw [Dz hw, if_pos rfl]
 have h0 : List.getD (bad n own e w).funcs 0 [] = dm n e := by
  show List.getD ((fL n own e).set (1 + w) wrt) 0 [] = _
  rw [Dz hw, if_neg (by omega)]; rfl
 have hb : xh (bad n own e w).funcs (1 + w) := by
  have hml := kK n e
  refine ⟨0, by rw [hl]; omega, (ear e).length + w, by rw [h0]; omega, ?_⟩
  rw [h0]
  rcases m9 n e ((ear e).length + w) (by omega) with ⟨h, _, _⟩ | ⟨_, _, q⟩ | ⟨h, _⟩
  ·omega
  ·rw [q]
   refine ⟨rfl, ?_⟩
   show ((1 + ((ear e).length + w - (ear e).length) : Nat) : Int) = ((1 + w : Nat) : Int)
   omega
  ·omega
 have hL := hH.begun _ hf hb
 have lab := Dy hg hU (1 + w) hf (hD.nest _ hf)
 have hbm := hD.just 0 (by show 0 < 1; decide)
 rw [show ((0 : Nat) : Int) = 0 from rfl] at hbm
 cases hq2 : gn (bad n own e w) (dN (bad n own e w) U L beh (eo 9) 0 (bad n own e w).funcs.length) 0 with
 | none => exact hbm hq2
 | some t =>
  have hs := rp (show i4 _ 0 _ = some t from hq2)
  have ht : t < 18 := by
   have := hs.2.1
   have : t < 0 + (2 + 16) := this
   omega
  have hi : 0 < (List.getD (bad n own e w).funcs (1 + w) []).length := by rw [hq]; decide
  have hbad := iY.1 hs.2.2 (1 + w) 0 hf hi
  have hnd : nde (bad n own e w) (1 + w) 0 = ⟨2, 0, 1, 0⟩ := by
   show List.getD (List.getD (bad n own e w).funcs (1 + w) []) 0 ab = _
   rw [hq]; rfl
  have hhd : hld (dN (bad n own e w) U L beh (eo 9) 0 (bad n own e w).funcs.length) (1 + w) 0 = 0#32 := by
   show List.getD (sec (dN (bad n own e w) U L beh (eo 9) 0 (bad n own e w).funcs.length) (1 + w)).held 0 0#32 = _
   rw [rl (p := bad n own e w) (1 + w) hf]
   exact lab.zero
  unfold rj at hbad
  rw [hnd, hhd, oL (p := bad n own e w) (1 + w) 0 hf hi, if_pos (eR.2 (.inl hL))] at hbad
  have := BJ (h := 0#32) (t := t) ht (fun k _ => by simp) GF
  rw [show (((⟨2, 0, 1, 0⟩ : aa).kind == 2) = true) from rfl, this] at hbad
  exact absurd hbad (by decide)
theorem EX {n own : Nat} (hn : n < 6) (ho : own < 16) (e : Bool) : ∃ d l js, bA (fam (n + 2) own e) = some (d, true, 0, l, js) ∧ cm (fam (n + 2) own e) ⟨d, l, js⟩ = some true ∧ js.length = 1 ∧ List.getD js 0 ak = ⟨2, (own : Int)⟩ := by
 have hk := CK hn ho e
 have hg := BI hk
 obtain ⟨U, u1, u2, u3⟩ := Br _ hg hk
 obtain ⟨beh, E, L, p1, hH⟩ := xS _ hg hk
 have hU : Uss (fam (n + 2) own e) U := ⟨u2⟩
 obtain ⟨hD, hb⟩ := DG (by omega) ho hg hU hH
 obtain ⟨b1, _⟩ := zu _ hg hk hU u1 beh E L p1 hH.bl hH.eb hH.lb
 refine ⟨_, _, _, b1 hD, vO hg hk hU u3 p1 hD, tf _ _ _ _, ?_⟩
 have := pU (fam (n + 2) own e) (dN (fam (n + 2) own e) U L beh (eo 9) 0 (fam (n + 2) own e).funcs.length) 1 0 0 (by decide)
 refine this.trans ?_
 rw [show ((0 + 0 : Nat) : Int) = 0 from rfl, hb]
 show tr (own + 2) = _
 unfold tr
 rw [if_neg (by omega), if_neg (by omega)]
 rfl
theorem EY {n own w : Nat} (hn : n < 6) (ho : own < 16) (hw : w < n + 2) (e : Bool) : bA (bad (n + 2) own e w) = some (fun _ => 0#8, false, 0, [], []) := by
 have hk := CL hn ho hw e
 have hg := BI hk
 obtain ⟨U, u1, u2, u3⟩ := Br _ hg hk
 obtain ⟨beh, E, L, p1, hH⟩ := xS _ hg hk
 have hU : Uss (bad (n + 2) own e w) U := ⟨u2⟩
 obtain ⟨_, b2⟩ := zu _ hg hk hU u1 beh E L p1 hH.bl hH.eb hH.lb
 exact b2 (DH hw hg hU hH)
theorem DI (threads lock without : B8) (early : Bool) : fG threads lock without early = some true := by
 have hn : threads.toNat % 6 < 6 := Nat.mod_lt _ (by decide)
 have ho : lock.toNat % 16 < 16 := Nat.mod_lt _ (by decide)
 have e1 : dH ((BitVec.toNat threads : Nat) : Int) 6 = ((threads.toNat % 6 : Nat) : Int) := te _ 6
 have e2 : dH ((BitVec.toNat lock : Nat) : Int) 16 = ((lock.toNat % 16 : Nat) : Int) := te _ 16
 have e3 : am 2 ((threads.toNat % 6 : Nat) : Int) = ((threads.toNat % 6 + 2 : Nat) : Int) := by rw [j7 (by omega) (by omega)]; omega
 have e4 : dH ((BitVec.toNat without : Nat) : Int) ((threads.toNat % 6 + 2 : Nat) : Int) = ((without.toNat % (threads.toNat % 6 + 2) : Nat) : Int) := te _ _
 have hw : without.toNat % (threads.toNat % 6 + 2) < threads.toNat % 6 + 2 := Nat.mod_lt _ (by omega)
 have e5 : am 1 ((without.toNat % (threads.toNat % 6 + 2) : Nat) : Int) = ((1 + without.toNat % (threads.toNat % 6 + 2) : Nat) : Int) := by rw [j7 (by omega) (by omega)]; omega
 unfold fG
 rw [bind_some Fc, if_neg (by decide), e1, e2, e3, e4, e5]
 generalize threads.toNat % 6 = n at hn hw ⊢
 generalize lock.toNat % 16 = own at ho ⊢
 generalize without.toNat % (n + 2) = w at hw ⊢
 have hml := fun e => kK (n + 2) e
 have hear := BE
 have main : ∀ e, ∃ d l js, bA (fam (n + 2) own e) = some (d, true, 0, l, js) ∧ cm (fam (n + 2) own e) ⟨d, l, js⟩ = some true ∧ js.length = 1 ∧ List.getD js 0 ak = ⟨2, (own : Int)⟩ := EX hn ho
 have hfl : ∀ e, (fL (n + 2) own e).length = n + 2 + 1 := fun e => na _ _ e
 have l15 : ∀ e, aJ [dm (n + 2) e] 1 16 8 without ((n + 2 : Nat) : Int) (own : Int) 0 = some (fL (n + 2) own e) := fun e => BH 1 16 8 without (n + 2) own (by omega) (n + 2) 0 [dm (n + 2) e] (by omega) (by simp)
 have sz : ∀ (t : List aa) (s : aa), t.length ≤ 100 → Nat.ble ((t.length + [s].length) * 32) aF = true := fun t s h => Nat.ble_eq_true_of_le (by simp only [List.length_singleton, aF]; omega)
 have tail : ∀ e, (bind (aJ [dm (n + 2) e] 1 16 8 without ((n + 2 : Nat) : Int) (own : Int) 0) fun v14 => bind (bA (ac.mk 1 16 8 v14)) fun v15 => if (!v15.2.1) = true then some false else if ((v15.2.2.1 : Int) != 0) = true then some false else bind (cm (ac.mk 1 16 8 v14) (aC.mk v15.1 v15.2.2.2.1 v15.2.2.2.2)) fun v19 => if (!v19) = true then some false else if (decide ((0 : Int) < (((List.length v15.2.2.2.2) : Nat) : Int))) = true then if (!(((((List.getD v15.2.2.2.2 0 ak).kind) : Int) == (2 : Int)) && (((((List.getD v15.2.2.2.2 0 ak).lock) : Int) == ((own : Int) : Int)) && true))) = true then some false else if (!decide (((n + 2 : Nat) : Int) = (0 : Int))) = true then if (decide ((0 : Int) ≤ ((1 + w : Nat) : Int))) = true then if (decide ((((1 + w : Nat) : Int) : Int) < (((List.length v14) : Nat) : Int))) = true then bind (bA (ac.mk 1 16 8 (List.set v14 (Int.toNat ((1 + w : Nat) : Int)) ([aa.mk 2 0 1 0, aa.mk 9 0 0 0])))) fun v27 => if (!v27.2.1) = true then some ((v27.2.2.1 : Int) == 0) else some false else none else none else none else none) = some true := fun e => by
  obtain ⟨d, l, js, c1, c2, c3, c4⟩ := main e
  have hl := hfl e
  rw [bind_some (l15 e), bind_some (show bA (ac.mk 1 16 8 (fL (n + 2) own e)) = _ from c1)]
  dsimp only
  rw [if_neg (by decide), if_neg (by decide), bind_some (show cm (ac.mk 1 16 8 (fL (n + 2) own e)) (aC.mk d l js) = _ from c2), if_neg (by decide), iP (by omega), c4, if_neg (by simp), if_pos (by rw [decide_eq_false (by omega)]; rfl), iP (by omega), iP (by omega), Int.toNat_natCast, bind_some (show bA (ac.mk 1 16 8 (List.set (fL (n + 2) own e) (1 + w) ([aa.mk 2 0 1 0, aa.mk 9 0 0 0]))) = _ from EY hn ho hw e)]
  rfl
 cases early with
 | true =>
  have l10 := xT ([] : FS) 1 16 8 without (n + 2) (by omega) (own : Int) (n + 2) 0 [aa.mk 2 0 1 0] (by omega) (by simp)
  rw [show ((0 : Nat) : Int) = 0 from rfl] at l10
  rw [if_pos rfl, if_pos (by decide), bind_some l10, if_pos (sz _ _ (by have := iZ (n + 2) 1 0; simp [iZ]; omega))]
  exact tail true
 | false =>
  have l10 := xT ([] : FS) 1 16 8 without (n + 2) (by omega) (own : Int) (n + 2) 0 [] (by omega) (by simp)
  rw [show ((0 : Nat) : Int) = 0 from rfl] at l10
  rw [if_neg (by decide), bind_some l10, if_pos (sz _ _ (by simp [iZ]; omega))]
  exact tail false
end Go.Bm.GoYtipjbmnfnmlkfaaDoor
