import Derived.Test.YtipjbmnfnmlkfaaDoorLcBb
namespace Go.Bm.GoYtipjbmnfnmlkfaaDoor
set_option autoImplicit false
set_option linter.unusedVariables false
set_option linter.unusedSimpArgs false
set_option maxRecDepth 100000
theorem HA (p : ae) (hg : dI p) (hk : bM p = some (0, 0, 0)) : ∃ o, kA p = some (0, o) ∧ o.length = p.funcs.length ∧ ∀ f, f < p.funcs.length → ∀ b, (List.getD o f 0#32).getLsbD b = true ↔ May p.funcs sg f b := by
 have hn := hg.funcs.2
 obtain ⟨out, q1, q2⟩ := rO p hg hk
 unfold kA
 rw [bind_some q1, if_neg (show ¬ ((0 : Int) != 0) = true by decide), iP (by omega), if_pos (decide_eq_true (by simp only [az]; omega)), Int.toNat_natCast]
 obtain ⟨o, g1, g2, g3⟩ := Ek p hg out q2 out.length 0 (List.replicate p.funcs.length 0#32) (by omega) (by simp) (fun f hf => by simp at hf) (fun f _ => by
  simp only [List.getD, List.getElem?_replicate]
  split <;> rfl)
 rw [show ((0 : Nat) : Int) = 0 from rfl] at g1
 rw [bind_some g1]
 exact ⟨o, rfl, g2, fun f hf => g3 f (q2.all f hf)⟩
theorem wJ {q : Nat → Bool} : ∀ {m i k : Nat}, i ≤ k → k < i + m → q k = true → (∀ j, i ≤ j → j < k → q j = false) → gz q i m = some k
 | 0, i, k, h1, h2, _, _ => by omega
 | m + 1, i, k, h1, h2, h3, h4 => by
  unfold gz
  rcases Nat.eq_or_lt_of_le h1 with rfl | h5
  ·rw [if_pos h3]
  ·rw [if_neg (by rw [h4 i (Nat.le_refl _) h5]; decide)]
   exact wJ h5 (by omega) h3 fun j h6 h7 => h4 j (by omega) h7
theorem El {q : Nat → Bool} : ∀ {m i : Nat}, (∀ j, i ≤ j → j < i + m → q j = false) → gz q i m = none
 | 0, i, _ => rfl
 | m + 1, i, h => by
  unfold gz
  rw [if_neg (by rw [h i (Nat.le_refl _) (by omega)]; decide)]
  exact El fun j h1 h2 => h j (by omega) (by omega)
def fu (q : Nat → Bool) : Nat → Nat → Bool
 | _, 0 => false
 | i, m + 1 => q i || fu q (i + 1) m
theorem jD {q : Nat → Bool} : ∀ {m i : Nat}, fu q i m = true ↔ ∃ k, i ≤ k ∧ k < i + m ∧ q k = true
 | 0, i => ⟨fun h => (by cases h), fun ⟨k, h1, h2, _⟩ => by omega⟩
 | m + 1, i => by
  unfold fu
  rw [Bool.or_eq_true, jD]
  constructor
  ·rintro (h | ⟨k, h1, h2, h3⟩)
   ·exact ⟨i, Nat.le_refl _, by omega, h⟩
   ·exact ⟨k, by omega, by omega, h3⟩
  ·rintro ⟨k, h1, h2, h3⟩
   rcases Nat.eq_or_lt_of_le h1 with rfl | h4
   ·exact .inl h3
   ·exact .inr ⟨k, h4, by omega, h3⟩
def i5 (p : ae) (l : List ac) (g : Int) (f i : Nat) : Bool := (acc (nde p f i) && ((nde p f i).arg == g)) && !(liv l f i == 0#32)
def nl (p : ae) (l : List ac) (g : Int) (f : Nat) : Nat → Nat → List W32
 | _, 0 => []
 | i, m + 1 => (if i5 p l g f i = true then [hld l f i] else []) ++ nl p l g f (i + 1) m
def nwB (p : ae) (l : List ac) (g : Int) (f i : Nat) : Bool := i5 p l g f i && ((nde p f i).kind == 2)
def nlF (p : ae) (l : List ac) (g : Int) : Nat → Nat → List W32
 | _, 0 => []
 | f, m + 1 => nl p l g f 0 (List.getD p.funcs f []).length ++ nlF p l g (f + 1) m
theorem Dl (p : ae) (l : List ac) (g : Int) (f : Nat) : ∀ (m i : Nat), (nl p l g f i m).length ≤ m
 | 0, i => Nat.le_refl _
 | m + 1, i => by
  have := Dl p l g f m (i + 1)
  unfold nl
  rw [List.length_append]
  split <;> simp <;> omega
theorem Gt (p : ae) (l : List ac) (g : Int) (f : Nat) (y : W32) : ∀ (m i : Nat), y ∈ nl p l g f i m ↔ ∃ k, i ≤ k ∧ k < i + m ∧ i5 p l g f k = true ∧ y = hld l f k
 | 0, i => ⟨fun h => (by cases h), fun ⟨k, h1, h2, _⟩ => by omega⟩
 | m + 1, i => by
  unfold nl
  rw [List.mem_append, Gt p l g f y m (i + 1)]
  constructor
  ·rintro (h | ⟨k, h1, h2, h3⟩)
   ·split at h
    ·rename_i hn
     exact ⟨i, Nat.le_refl _, by omega, hn, List.mem_singleton.1 h⟩
    ·cases h
   ·exact ⟨k, by omega, by omega, h3⟩
  ·rintro ⟨k, h1, h2, h3, h4⟩
   rcases Nat.eq_or_lt_of_le h1 with rfl | h5
   ·rw [if_pos h3, h4]; exact .inl (List.mem_singleton.2 rfl)
   ·exact .inr ⟨k, h5, by omega, h3, h4⟩
theorem En (p : ae) (l : List ac) (g : Int) (y : W32) : ∀ (m f : Nat), y ∈ nlF p l g f m ↔ ∃ h, f ≤ h ∧ h < f + m ∧ ∃ k, k < (List.getD p.funcs h []).length ∧ i5 p l g h k = true ∧ y = hld l h k
 | 0, f => ⟨fun h => (by cases h), fun ⟨k, h1, h2, _⟩ => by omega⟩
 | m + 1, f => by
  unfold nlF
  rw [List.mem_append, Gt, En p l g y m (f + 1)]
  constructor
  ·rintro (⟨k, _, h2, h3⟩ | ⟨k, h1, h2, h3⟩)
   ·exact ⟨f, Nat.le_refl _, by omega, k, by omega, h3⟩
   ·exact ⟨k, by omega, by omega, h3⟩
  ·rintro ⟨h, h1, h2, k, h3, h4⟩
   rcases Nat.eq_or_lt_of_le h1 with rfl | h5
   ·exact .inl ⟨k, Nat.zero_le _, by omega, h4⟩
   ·exact .inr ⟨h, h5, by omega, k, h3, h4⟩
theorem Cd (p : ae) (hg : dI p) (l : List ac) (hs : Shp p l) (g : Int) (f : Nat) (hf : f < p.funcs.length) (x9 x10 : Int) : ∀ (m i : Nat) (t : List W32) (w : Bool), i + m = (List.getD p.funcs f []).length → t.length + m ≤ 100000 →
  bD t p.globals p.locks p.slots p.funcs l g w (f : Int) x9 x10 (List.getD p.funcs f []) ((List.getD p.funcs f []).length : Int) (i : Int) = some (t ++ nl p l g f i m, w || fu (nwB p l g f) i m)
 | 0, i, t, w, h, ht => by
  rw [bD, iN (by omega)]
  simp [nl, fu]
 | m + 1, i, t, w, h, ht => by
  have hle := hg.le f
  have hl := hs.1
  have ih := fun t w => Cd p hg l hs g f hf x9 x10 m (i + 1) t w (by omega)
  have h1 : (List.getD l f ad).held.length = (List.getD p.funcs f []).length := (hs.2 f hf).1
  have h2 : (List.getD l f ad).live.length = (List.getD p.funcs f []).length := (hs.2 f hf).2
  have hsolo : sC (List.getD l f ad) (i : Int) = some (liv l f i == 0#32) := by
   unfold sC
   rw [iP (by omega), iP (by omega), iP (by omega), iP (by omega), Int.toNat_natCast i]
  have skip : i5 p l g f i = false → some (t ++ nl p l g f (i + 1) m, w || fu (nwB p l g f) (i + 1) m) = some (t ++ nl p l g f i (m + 1), w || fu (nwB p l g f) i (m + 1)) := fun hn => by
   rw [show nl p l g f i (m + 1) = nl p l g f (i + 1) m by unfold nl; rw [if_neg (by rw [hn]; decide)]; cases m <;> rfl, show fu (nwB p l g f) i (m + 1) = fu (nwB p l g f) (i + 1) m by
    rw [show fu (nwB p l g f) i (m + 1) = (nwB p l g f i || fu (nwB p l g f) (i + 1) m) from rfl]
    unfold nwB
    rw [hn]
    rfl]
  rw [bD, iP (by omega), iP (by omega), iP (by omega), Int.toNat_natCast i, bind_some (zW _), inc i (by omega)]
  cases ha : acc (nde p f i) with
  | false =>
   dsimp only
   rw [if_pos (by decide), ih t w (by omega)]
   exact skip (by unfold i5; rw [ha]; rfl)
  | true =>
   dsimp only
   rw [if_neg (by decide)]
   by_cases hgg : (nde p f i).arg = g
   ·rw [if_neg (neF hgg), iP (by omega), iP (by omega), Int.toNat_natCast f, bind_some hsolo]
    cases h0 : (liv l f i == 0#32) with
    | true =>
     rw [if_pos rfl, ih t w (by omega)]
     exact skip (by unfold i5; rw [h0]; simp)
    | false =>
     have hn : i5 p l g f i = true := by unfold i5; rw [h0, ha, eqT hgg]; rfl
     rw [if_neg (by decide), iN (by omega), iP (by omega), if_pos (Nat.ble_eq_true_of_le (by simp only [List.length_singleton, az]; omega))]
     have e1 : nl p l g f i (m + 1) = [hld l f i] ++ nl p l g f (i + 1) m := by
      rw [show nl p l g f i (m + 1) = (if i5 p l g f i = true then [hld l f i] else []) ++ nl p l g f (i + 1) m from rfl, if_pos hn]
     have e2 : fu (nwB p l g f) i (m + 1) = ((nde p f i).kind == 2 || fu (nwB p l g f) (i + 1) m) := by
      rw [show fu (nwB p l g f) i (m + 1) = (nwB p l g f i || fu (nwB p l g f) (i + 1) m) from rfl]
      unfold nwB
      rw [hn, Bool.true_and]
     rw [e1, e2, ← List.append_assoc]
     cases w with
     | true => rw [if_pos rfl, ih _ true (by simp; omega)]; rfl
     | false => rw [if_neg (by decide), ih _ _ (by simp; omega)]; rfl
   ·rw [if_pos (neT hgg), ih t w (by omega)]
    exact skip (by unfold i5; rw [show ((nde p f i).arg == g) = false by simpa using hgg]; simp)
theorem Eo (p : ae) (hg : dI p) (l : List ac) (g : Int) : ∀ (m f : Nat), (nlF p l g f m).length ≤ 64 * m
 | 0, f => Nat.le_refl _
 | m + 1, f => by
  have h1 := Dl p l g f (List.getD p.funcs f []).length 0
  have h2 := Eo p hg l g m (f + 1)
  have h3 := hg.le f
  unfold nlF
  rw [List.length_append]
  omega
theorem Ce (p : ae) (hg : dI p) (l : List ac) (hs : Shp p l) (g : Int) : ∀ (m f : Nat) (t : List W32) (w : Bool), f + m = p.funcs.length → t.length + 64 * m ≤ 50000 →
  eA t p.globals p.locks p.slots p.funcs l g w (p.funcs.length : Int) (f : Int) = some (t ++ nlF p l g f m, w || fu (fun f => fu (nwB p l g f) 0 (List.getD p.funcs f []).length) f m)
 | 0, f, t, w, h, ht => by
  rw [eA, iN (by omega)]
  simp [nlF, fu]
 | m + 1, f, t, w, h, ht => by
  have hn := hg.funcs.2
  have hle := hg.le f
  have h1 := Dl p l g f (List.getD p.funcs f []).length 0
  have h7 := Cd p hg l hs g f (by omega) (p.funcs.length : Int) (f : Int) (List.getD p.funcs f []).length 0 t w (by omega) (by omega)
  rw [eA, iP (by omega), iP (by omega), iP (by omega), Int.toNat_natCast f, bind_some (show bD t p.globals p.locks p.slots p.funcs l g w (f : Int) _ _ _ _ 0 = _ from h7), inc f (by omega)]
  dsimp only
  rw [Ce p hg l hs g m (f + 1) _ _ (by omega) (by rw [List.length_append]; omega), List.append_assoc, Bool.or_assoc]
  rfl
theorem Ep (l : List W32) (hl : l.length ≤ 100000) : ∀ (m i : Nat) (x : W32), i + m = l.length → ∃ y, fB x l (l.length : Int) (i : Int) = some y ∧ ∀ b, y.getLsbD b = true ↔ x.getLsbD b = true ∧ ∀ k, i ≤ k → k < l.length → (List.getD l k 0#32).getLsbD b = true
 | 0, i, x, h => by
  rw [fB, iN (by omega)]
  exact ⟨x, rfl, fun b => ⟨fun h => ⟨h, fun k h1 h2 => by omega⟩, fun h => h.1⟩⟩
 | m + 1, i, x, h => by
  obtain ⟨y, q1, q2⟩ := Ep l hl m (i + 1) (x &&& List.getD l i 0#32) (by omega)
  refine ⟨y, ?_, fun b => ?_⟩
  ·rw [fB, iP (by omega), iP (by omega), iP (by omega), Int.toNat_natCast i, inc i (by omega)]
   exact q1
  ·rw [q2, BitVec.getLsbD_and, Bool.and_eq_true]
   constructor
   ·rintro ⟨⟨h1, h2⟩, h3⟩
    refine ⟨h1, fun k h4 h5 => ?_⟩
    rcases Nat.eq_or_lt_of_le h4 with rfl | h6
    ·exact h2
    ·exact h3 k h6 h5
   ·rintro ⟨h1, h2⟩
    exact ⟨⟨h1, h2 i (Nat.le_refl _) (by omega)⟩, fun k h4 h5 => h2 k (by omega) h5⟩
theorem HB (l : List W32) (hl : l.length ≤ 100000) : ∃ y, qb l = some y ∧ ∀ b, b < 32 → (y.getLsbD b = true ↔ ∀ z ∈ l, z.getLsbD b = true) := by
 obtain ⟨y, q1, q2⟩ := Ep l hl l.length 0 4294967295#32 (by omega)
 unfold qb
 rw [bind_some (show fB _ l _ 0 = _ from q1)]
 refine ⟨y, rfl, fun b hb => ?_⟩
 rw [q2]
 constructor
 ·rintro ⟨_, h⟩ z hz
  obtain ⟨k, hk, rfl⟩ := List.mem_iff_getElem.1 hz
  have := h k (Nat.zero_le _) hk
  simpa [List.getD, hk] using this
 ·intro h
  refine ⟨?_, fun k _ hk => h _ ?_⟩
  ·have : ∀ b : Fin 32, (4294967295#32).getLsbD b.val = true := by decide
   exact this ⟨b, hb⟩
  ·have : List.getD l k 0#32 = l[k] := by simp [List.getD, hk]
   rw [this]
   exact List.getElem_mem hk
def i8 (p : ae) (l : List ac) (g : Int) (j : ah) (f i : Nat) : Bool := (acc (nde p f i) && ((nde p f i).arg == g)) && !pP j ((nde p f i).kind == 2) (hld l f i) (liv l f i)
def okJ (p : ae) (l : List ac) (g : Int) (j : ah) : Bool := !fu (fun f => fu (i8 p l g j f) 0 (List.getD p.funcs f []).length) 0 p.funcs.length
theorem tN {p : ae} {l : List ac} {g : Int} {j : ah} : okJ p l g j = true ↔ ∀ f i, f < p.funcs.length → i < (List.getD p.funcs f []).length → i8 p l g j f i = false := by
 unfold okJ
 rw [Bool.not_eq_true', ← Bool.not_eq_true, jD]
 constructor
 ·intro h f i hf hi
  cases hb : i8 p l g j f i with
  | false => rfl
  | true => exact absurd ⟨f, Nat.zero_le _, (by omega : f < 0 + p.funcs.length), jD.2 ⟨i, Nat.zero_le _, (by omega : i < 0 + _), hb⟩⟩ h
 ·rintro h ⟨f, _, hf, h2⟩
  obtain ⟨i, _, hi, h3⟩ := jD.1 h2
  rw [h f i (by omega) (by omega)] at h3
  cases h3
def tr (k : Nat) : ah := if k = 0 then ⟨0, 0⟩ else if k = 1 then ⟨1, 0⟩ else ⟨2, ((k - 2 : Nat) : Int)⟩
def gS (p : ae) (l : List ac) (g : Int) : Option Nat := gz (fun k => okJ p l g (tr k)) 0 (2 + p.locks.toNat)
theorem Er (p : ae) (l : List ac) (g : Int) (f i : Nat) : i8 p l g (tr 0) f i = i5 p l g f i := by
 unfold i8 i5 pP tr
 by_cases h : liv l f i = 0#32
 ·rw [if_pos h, show (liv l f i == 0#32) = true by simpa using h]
 ·rw [if_neg h, show (liv l f i == 0#32) = false by simpa using h]; rfl
theorem Es (p : ae) (l : List ac) (g : Int) (f i : Nat) : i8 p l g (tr 1) f i = nwB p l g f i := by
 unfold i8 nwB i5 pP tr
 by_cases h : liv l f i = 0#32
 ·rw [if_pos h, show (liv l f i == 0#32) = true by simpa using h]; simp
 ·rw [if_neg h, show (liv l f i == 0#32) = false by simpa using h]
  simp
theorem Et (p : ae) (l : List ac) (g : Int) (f i k : Nat) (hk : k < 32) : i8 p l g (tr (k + 2)) f i = (i5 p l g f i && !(hld l f i).getLsbD k) := by
 have e : tr (k + 2) = ⟨2, (k : Int)⟩ := by unfold tr; rw [if_neg (by omega), if_neg (by omega)]; rfl
 rw [e]
 unfold i8 i5 pP
 by_cases h : liv l f i = 0#32
 ·rw [if_pos h, show (liv l f i == 0#32) = true by simpa using h]; simp
 ·rw [if_neg h, show (liv l f i == 0#32) = false by simpa using h, if_neg (show ¬ (2 : Int) = 1 by decide), if_pos (show (2 : Int) = 2 from rfl), FP _ hk]
  simp
theorem HC (p : ae) (hg : dI p) (l : List ac) (hs : Shp p l) (g : Int) : kq p l g = some (match gS p l g with | some k => (tr k, true) | none => (⟨0, 0⟩, false)) := by
 have hn := hg.funcs.2
 have hlk := hg.locks
 have hl := hs.1
 have hlen := Eo p hg l g p.funcs.length 0
 have h4 := Ce p hg l hs g p.funcs.length 0 [] false (by omega) (by simp; omega)
 rw [List.nil_append, Bool.false_or] at h4
 obtain ⟨y, y1, y2⟩ := HB (nlF p l g 0 p.funcs.length) (by omega)
 have hmem := fun z => En p l g z p.funcs.length 0
 have hneeds : kP p l g = some (y, decide (((nlF p l g 0 p.funcs.length).length : Int) > 0), fu (fun f => fu (nwB p l g f) 0 (List.getD p.funcs f []).length) 0 p.funcs.length) := by
  unfold kP
  rw [show (if (l.length : Int) < (p.funcs.length : Int) then (l.length : Int) else (p.funcs.length : Int)) = (p.funcs.length : Int) by split <;> omega, bind_some (show eA [] p.globals p.locks p.slots p.funcs l g false _ 0 = _ from h4), bind_some y1]
 have hall : ia p.locks = some (iy p.locks.toNat) := by
  have := tI p.locks.toNat (by omega)
  rw [Int.toNat_of_nonneg hlk.1] at this
  exact this
 unfold kq gS
 rw [bind_some hneeds, bind_some hall]
 dsimp only
 by_cases hnone : nlF p l g 0 p.funcs.length = []
 ·have hno : ∀ f i, f < p.funcs.length → i < (List.getD p.funcs f []).length → i5 p l g f i = false := fun f i hf hi => by
   cases hb : i5 p l g f i with
   | false => rfl
   | true =>
    have := (hmem (hld l f i)).2 ⟨f, Nat.zero_le _, by omega, i, hi, hb, rfl⟩
    rw [hnone] at this
    cases this
  rw [hnone, if_pos (by decide), wJ (k := 0) (Nat.le_refl _) (by omega) (tN.2 fun f i hf hi => (Er p l g f i).trans (hno f i hf hi)) (fun j h1 h2 => by omega)]
  rfl
 ·have hpos : 0 < (nlF p l g 0 p.funcs.length).length := List.length_pos_iff.2 hnone
  obtain ⟨z, hz⟩ := List.exists_mem_of_length_pos hpos
  obtain ⟨f0, _, hf0, i0, hi0, hb0, _⟩ := (hmem z).1 hz
  have q0 : okJ p l g (tr 0) = false := by
   rw [← Bool.not_eq_true, tN]
   intro h
   have := (Er p l g f0 i0).symm.trans (h f0 i0 (by omega) hi0)
   rw [hb0] at this
   cases this
  rw [if_neg (by simp; omega)]
  cases hw : fu (fun f => fu (nwB p l g f) 0 (List.getD p.funcs f []).length) 0 p.funcs.length with
  | false =>
   have q1 : okJ p l g (tr 1) = true := tN.2 fun f i hf hi => by
    rw [Es]
    cases hb : nwB p l g f i with
    | false => rfl
    | true =>
     have a1 : fu (nwB p l g f) 0 (List.getD p.funcs f []).length = true := jD.2 ⟨i, Nat.zero_le _, by omega, hb⟩
     have a2 : fu (fun f => fu (nwB p l g f) 0 (List.getD p.funcs f []).length) 0 p.funcs.length = true := jD.2 ⟨f, Nat.zero_le _, by omega, a1⟩
     rw [hw] at a2
     cases a2
   rw [if_pos (by decide), wJ (k := 1) (by omega) (by omega) q1 (fun j h1 h2 => by
    have : j = 0 := by omega
    subst this
    exact q0)]
   rfl
  | true =>
   obtain ⟨f1, _, hf1, h1⟩ := jD.1 hw
   obtain ⟨i1, _, hi1, hb1⟩ := jD.1 h1
   have q1 : okJ p l g (tr 1) = false := by
    rw [← Bool.not_eq_true, tN]
    intro h
    have := (Es p l g f1 i1).symm.trans (h f1 i1 (by omega) (by omega))
    rw [hb1] at this
    cases this
   have q2 : ∀ k, k < 32 → (okJ p l g (tr (k + 2)) = true ↔ y.getLsbD k = true) := fun k hk => by
    rw [tN, y2 k hk]
    constructor
    ·intro h z hz
     obtain ⟨f, _, hf, i, hi, hb, rfl⟩ := (hmem z).1 hz
     have := h f i (by omega) hi
     rw [Et p l g f i k hk, hb] at this
     simpa using this
    ·intro h f i hf hi
     rw [Et p l g f i k hk]
     cases hb : i5 p l g f i with
     | false => rfl
     | true =>
      rw [h _ ((hmem _).2 ⟨f, Nat.zero_le _, by omega, i, hi, hb, rfl⟩)]
      rfl
   have low : ∀ j, j < 2 → okJ p l g (tr j) = false := fun j hj => by
    match j, hj with
    | 0, _ => exact q0
    | 1, _ => exact q1
   rw [if_neg (by decide)]
   by_cases hz0 : y &&& iy p.locks.toNat = 0#32
   ·rw [if_neg (by simpa using hz0), El fun j _ hj => by
     rcases Nat.lt_or_ge j 2 with h | h
     ·exact low j h
     ·obtain ⟨k, rfl⟩ : ∃ k, j = k + 2 := ⟨j - 2, by omega⟩
      rw [← Bool.not_eq_true, q2 k (by omega)]
      intro hb
      have h2 := congrArg (fun v => BitVec.getLsbD v k) hz0
      simp only [BitVec.getLsbD_and, hb, (ib (n := p.locks.toNat) (by omega) k).2 (by omega), BitVec.getLsbD_zero] at h2
      cases h2]
   ·obtain ⟨k, hk⟩ := CT hz0
    have hkb := hk.2.1
    rw [BitVec.getLsbD_and, Bool.and_eq_true, ib (by omega)] at hkb
    rw [if_pos (by simpa using hz0), bind_some (zP hk), wJ (k := k + 2) (Nat.zero_le _) (by omega) ((q2 k hk.1).2 hkb.1) (fun j _ hj => by
     rcases Nat.lt_or_ge j 2 with h | h
     ·exact low j h
     ·obtain ⟨i, rfl⟩ : ∃ i, j = i + 2 := ⟨j - 2, by omega⟩
      rw [← Bool.not_eq_true, q2 i (by omega)]
      intro hb
      exact hk.2.2 i (by omega) (by rw [BitVec.getLsbD_and, hb, (ib (n := p.locks.toNat) (by omega) i).2 (by omega)]; rfl))]
    dsimp only
    rw [show tr (k + 2) = ⟨2, (k : Int)⟩ by unfold tr; rw [if_neg (by omega), if_neg (by omega)]; rfl]
theorem Cf (p : ae) (hg : dI p) (l : List ac) (hs : Shp p l) (t : List ah) (k : Nat) (hk : k < t.length) (x5 x6 : Int) (g : Int) (f : Nat) (hf : f < p.funcs.length) : ∀ (m i : Nat) (ok : Bool), i + m = (List.getD p.funcs f []).length →
  aP t p.globals p.locks p.slots p.funcs x5 x6 l g (k : Int) ok (f : Int) (i : Int) = some (ok && !fu (i8 p l g (List.getD t k ag) f) i m)
 | 0, i, ok, h => by
  rw [aP, iP (by omega), iP (by omega), Int.toNat_natCast f, iN (by omega)]
  simp [fu]
 | m + 1, i, ok, h => by
  have hle := hg.le f
  have hl := hs.1
  have ih := fun ok => Cf p hg l hs t k hk x5 x6 g f hf m (i + 1) ok (by omega)
  have h1 : (List.getD l f ad).held.length = (List.getD p.funcs f []).length := (hs.2 f hf).1
  have h2 : (List.getD l f ad).live.length = (List.getD p.funcs f []).length := (hs.2 f hf).2
  have e : fu (i8 p l g (List.getD t k ag) f) i (m + 1) = (i8 p l g (List.getD t k ag) f i || fu (i8 p l g (List.getD t k ag) f) (i + 1) m) := rfl
  have skip : i8 p l g (List.getD t k ag) f i = false → some (ok && !fu (i8 p l g (List.getD t k ag) f) (i + 1) m) = some (ok && !fu (i8 p l g (List.getD t k ag) f) i (m + 1)) := fun hb => by rw [e, hb, Bool.false_or]
  have tail : acc (nde p f i) = true → (nde p f i).arg = g → (if ok = true then if decide ((0 : Int) ≤ (k : Int)) = true then if decide ((k : Int) < (t.length : Int)) = true then if decide ((f : Int) < (l.length : Int)) = true then if decide ((i : Int) < ((List.getD l f ad).held.length : Int)) = true then if decide ((i : Int) < ((List.getD l f ad).live.length : Int)) = true then bind (fb (List.getD t k ag) ((nde p f i).kind == 2) (hld l f i) (liv l f i)) fun v => aP t p.globals p.locks p.slots p.funcs x5 x6 l g (k : Int) v (f : Int) ((i + 1 : Nat) : Int) else none else none else none else none else none else aP t p.globals p.locks p.slots p.funcs x5 x6 l g (k : Int) false (f : Int) ((i + 1 : Nat) : Int)) = some (ok && !fu (i8 p l g (List.getD t k ag) f) i (m + 1)) := fun ha hgg => by
   have hb : i8 p l g (List.getD t k ag) f i = !pP (List.getD t k ag) ((nde p f i).kind == 2) (hld l f i) (liv l f i) := by
    unfold i8
    rw [ha, eqT hgg]
    rfl
   cases ok with
   | true =>
    rw [if_pos rfl, iP (by omega), iP (by omega), iP (by omega), iP (by omega), iP (by omega), bind_some (B7 _ _ _ _), ih, e, hb]
    cases pP (List.getD t k ag) ((nde p f i).kind == 2) (hld l f i) (liv l f i) <;> simp
   | false =>
    rw [if_neg (by decide), ih]
    simp
  rw [aP, iP (by omega), iP (by omega), Int.toNat_natCast f, iP (by omega), iP (by omega), iP (by omega), Int.toNat_natCast i, inc i (by omega), Int.toNat_natCast k]
  by_cases hk1 : (nde p f i).kind = 1
  ·rw [if_pos (eqT hk1)]
   by_cases hgg : (nde p f i).arg = g
   ·rw [if_pos (eqT hgg)]
    exact tail (by unfold acc; rw [eqT hk1]; rfl) hgg
   ·rw [if_neg (eqF hgg), ih]
    exact skip (by unfold i8; rw [show ((nde p f i).arg == g) = false by simpa using hgg]; simp)
  ·rw [if_neg (eqF hk1)]
   by_cases hk2 : (nde p f i).kind = 2
   ·rw [if_pos (eqT hk2)]
    by_cases hgg : (nde p f i).arg = g
    ·rw [if_pos (eqT hgg)]
     exact tail (by unfold acc; rw [eqT hk2]; exact Bool.or_true _) hgg
    ·rw [if_neg (eqF hgg), ih]
     exact skip (by unfold i8; rw [show ((nde p f i).arg == g) = false by simpa using hgg]; simp)
   ·rw [if_neg (eqF hk2), ih]
    exact skip (by unfold i8 acc; rw [show ((nde p f i).kind == 1) = false by simpa using hk1, show ((nde p f i).kind == 2) = false by simpa using hk2]; rfl)
theorem Cg (p : ae) (hg : dI p) (l : List ac) (hs : Shp p l) (t : List ah) (k : Nat) (hk : k < t.length) (x5 x6 : Int) (g : Int) : ∀ (m f : Nat) (ok : Bool), f + m = p.funcs.length →
  cS t p.globals p.locks p.slots p.funcs x5 x6 l g (k : Int) ok (f : Int) = some (ok && !fu (fun f => fu (i8 p l g (List.getD t k ag) f) 0 (List.getD p.funcs f []).length) f m)
 | 0, f, ok, h => by
  rw [cS, iN (by omega)]
  simp [fu]
 | m + 1, f, ok, h => by
  have hn := hg.funcs.2
  have h14 := Cf p hg l hs t k hk x5 x6 g f (by omega) (List.getD p.funcs f []).length 0 ok (by omega)
  rw [show ((0 : Nat) : Int) = 0 from rfl] at h14
  rw [cS, iP (by omega), bind_some h14, inc f (by omega), Cg p hg l hs t k hk x5 x6 g m (f + 1) _ (by omega)]
  rw [show fu (fun f => fu (i8 p l g (List.getD t k ag) f) 0 (List.getD p.funcs f []).length) f (m + 1) = (fu (i8 p l g (List.getD t k ag) f) 0 (List.getD p.funcs f []).length || fu (fun f => fu (i8 p l g (List.getD t k ag) f) 0 (List.getD p.funcs f []).length) (f + 1) m) from rfl]
  cases ok <;> cases fu (i8 p l g (List.getD t k ag) f) 0 (List.getD p.funcs f []).length <;> simp
def n7b (t : List ah) : Option Nat → cA
 | some k => .x0 (List.getD t k ag).kind (List.getD t k ag).lock 1
 | none => .x1
theorem Eu (p : ae) (hg : dI p) (l : List ac) (hs : Shp p l) (t : List ah) (ht : t.length ≤ 1000) (x5 x6 : Int) (g : Int) : ∀ (m k : Nat), k + m = t.length →
  dx t p.globals p.locks p.slots p.funcs x5 x6 l g (k : Int) = some (n7b t (gz (fun k => okJ p l g (List.getD t k ag)) k m))
 | 0, k, h => by
  rw [dx, iN (by omega)]
  rfl
 | m + 1, k, h => by
  have h11 := Cg p hg l hs t k (by omega) x5 x6 g p.funcs.length 0 true (by omega)
  rw [show ((0 : Nat) : Int) = 0 from rfl, Bool.true_and] at h11
  rw [dx, iP (by omega), bind_some h11, inc k (by omega), Eu p hg l hs t ht x5 x6 g m (k + 1) (by omega), iP (by omega), iP (by omega), Int.toNat_natCast k]
  rw [show gz (fun k => okJ p l g (List.getD t k ag)) k (m + 1) = if okJ p l g (List.getD t k ag) = true then some k else gz (fun k => okJ p l g (List.getD t k ag)) (k + 1) m from rfl]
  rw [show (!fu (fun f => fu (i8 p l g (List.getD t k ag) f) 0 (List.getD p.funcs f []).length) 0 p.funcs.length) = okJ p l g (List.getD t k ag) from rfl]
  by_cases ho : okJ p l g (List.getD t k ag) = true
  ·rw [if_pos ho, if_pos ho]; rfl
  ·rw [if_neg ho, if_neg ho]
theorem Ew (p : ae) (hlk : p.locks ≤ 16) (l : List ac) (x5 x6 : Int) (g : Int) : ∀ (m k : Nat) (t : List ah), k + m = p.locks.toNat → t.length = 2 + k → (∀ j, j < 2 + k → List.getD t j ag = tr j) → ∃ t', cz t p.globals p.locks p.slots p.funcs x5 x6 l g (k : Int) = some t' ∧ t'.length = 2 + p.locks.toNat ∧ ∀ j, j < 2 + p.locks.toNat → List.getD t' j ag = tr j
 | 0, k, t, h, h1, h2 => by
  rw [cz, iN (by omega)]
  exact ⟨t, rfl, by omega, fun j hj => h2 j (by omega)⟩
 | m + 1, k, t, h, h1, h2 => by
  obtain ⟨t', q1, q2, q3⟩ := Ew p hlk l x5 x6 g m (k + 1) (t ++ [⟨2, (k : Int)⟩]) (by omega) (by simp [h1]; omega) (fun j hj => by
   rw [jb]
   split
   ·rw [show j = k + 2 by omega]
    unfold tr
    rw [if_neg (by omega), if_neg (by omega)]
    rfl
   ·exact h2 j (by omega))
  refine ⟨t', ?_, q2, q3⟩
  rw [cz, iP (by omega), if_pos (Nat.ble_eq_true_of_le (by simp only [List.length_singleton, az]; omega)), inc k (by omega)]
  exact q1
theorem Dm (p : ae) (hg : dI p) (l : List ac) (hs : Shp p l) (g : Int) : gh p l g = some (match gS p l g with | some k => (tr k, 1) | none => (⟨0, 0⟩, 0)) := by
 have hlk := hg.locks
 obtain ⟨t, q1, q2, q3⟩ := Ew p hlk.2 l 0 0 g p.locks.toNat 0 [⟨0, 0⟩, ⟨1, 0⟩] (by omega) rfl (fun j hj => by
  match j, hj with
  | 0, _ => rfl
  | 1, _ => rfl)
 have h7 := Eu p hg l hs t (by omega) 0 0 g t.length 0 (by omega)
 rw [show ((0 : Nat) : Int) = 0 from rfl] at h7
 unfold gh
 rw [bind_some (show cz [⟨0, 0⟩, ⟨1, 0⟩] _ _ _ _ _ _ _ _ 0 = _ from q1), bind_some h7]
 have e : gz (fun k => okJ p l g (List.getD t k ag)) 0 t.length = gS p l g := by
  unfold gS
  rw [q2]
  exact w7 fun k _ hk => by rw [q3 k (by omega)]
 rw [e]
 cases hb : gS p l g with
 | none => rfl
 | some k =>
  have hk := zr hb
  dsimp only [n7b]
  rw [q3 k (by omega)]
theorem yl (l : List W32) (hl : l.length ≤ 100000) : fQ l l = some true := by
 have key : ∀ (m i : Nat), i + m = l.length → bU l l (i : Int) = some .x1 := by
  intro m
  induction m with
  | zero => intro i hi; rw [bU, iN (by omega)]
  | succ m ih =>
   intro i hi
   rw [bU, iP (by omega), iP (by omega), iP (by omega), iP (by omega), if_neg (by simp), inc i (by omega)]
   exact ih (i + 1) (by omega)
 unfold fQ
 rw [if_neg (neF rfl), bind_some (show bU l l 0 = _ from key l.length 0 (by omega))]
theorem z4 (c : jv) (hn : c.sections.length ≤ 1000) (hj : c.justs.length ≤ 1000) (hl : ∀ f, f < c.sections.length → (sec c.sections f).held.length ≤ 100000 ∧ (sec c.sections f).live.length ≤ 100000) (d : Nat → B8) (hd : ∀ i, i < 32 → d i = c.digest i) : fw ⟨d, c.sections, c.justs⟩ c = some true := by
 have k4 : ∀ (m i : Nat), i + m = c.sections.length → cp d c.sections c.justs c.digest c.sections c.justs (i : Int) = some .x1 := by
  intro m
  induction m with
  | zero => intro i hi; rw [cp, iN (by omega)]
  | succ m ih =>
   intro i hi
   have h := hl i (by omega)
   rw [cp, iP (by omega), iP (by omega), iP (by omega), iP (by omega), Int.toNat_natCast i, if_neg (by simp), if_neg (by simp), if_neg (by simp), if_neg (by simp), bind_some (yl _ h.1), if_neg (by decide), bind_some (yl _ h.2), if_neg (by decide), inc i (by omega)]
   exact ih (i + 1) (by omega)
 have k10 : ∀ (m i : Nat), i + m = c.justs.length → bV d c.sections c.justs c.digest c.sections c.justs (i : Int) = some .x1 := by
  intro m
  induction m with
  | zero => intro i hi; rw [bV, iN (by omega)]
  | succ m ih =>
   intro i hi
   rw [bV, iP (by omega), iP (by omega), iP (by omega), iP (by omega), if_neg (by simp), inc i (by omega)]
   exact ih (i + 1) (by omega)
 unfold fw
 dsimp only
 rw [(vB _ _).2 hd, if_neg (by decide), if_neg (neF rfl), if_neg (neF rfl), bind_some (show cp _ _ _ _ _ _ 0 = _ from k4 c.sections.length 0 (by omega)), bind_some (show bV _ _ _ _ _ _ 0 = _ from k10 c.justs.length 0 (by omega))]
theorem Dn (p : ae) (hg : dI p) (hk : bM p = some (0, 0, 0)) : ∃ (beh : List Bool) (E L : W32) (el ll : List Int), iq p = some (E, L, 0, beh) ∧ gg p = some (beh, el, ll) ∧ beh.length = (List.getD p.funcs 0 []).length ∧ el.length ≤ 32 ∧ ll.length ≤ 32 ∧ (∀ b : Nat, E.getLsbD b = true ↔ (b : Int) ∈ el) ∧ (∀ b : Nat, L.getLsbD b = true ↔ (b : Int) ∈ ll) ∧ (∀ b : Nat, E.getLsbD b = true → b < p.funcs.length) ∧ ∀ b : Nat, L.getLsbD b = true → b < p.funcs.length := by
 have hn := hg.funcs
 have hll := hg.le 0
 have hle : ∀ f, (List.getD p.funcs f []).length ≤ 65536 := fun f => by have := hg.le f; omega
 have hsp := D2 (List.getD p.funcs 0 []) (List.getD p.funcs 0 []).length 0
 obtain ⟨a, a1, a2, a3⟩ := FL (List.getD p.funcs 0 []) (by omega) (spn (List.getD p.funcs 0 []) 0 (List.getD p.funcs 0 []).length) (by omega)
 obtain ⟨a', r1, r2, r3⟩ := Bt (List.getD p.funcs 0 []) (by omega) (spn (List.getD p.funcs 0 []) 0 (List.getD p.funcs 0 []).length) (by omega)
 have ea : a' = a := FJ (by omega) fun y => by rw [r3, a3]
 subst ea
 obtain ⟨x, x1, x2⟩ := FO p hg
 obtain ⟨e, t, e1, e2, e3⟩ := AN (List.getD p.funcs 0 []) (by omega) a' a2 [] p.globals p.locks p.slots p.funcs 0#32 0#32 0#32 0#32 (List.getD p.funcs 0 []).length 0 0#32 x 0#32 (Nat.zero_add _)
 obtain ⟨el, tl, f1, f2, f3, f4, f5⟩ := D3 p (by omega) (by omega) a' a2 (List.getD p.funcs 0 []).length 0 [] [] (Nat.zero_add _) (Nat.le_refl _) (Nat.le_refl _)
 obtain ⟨ll, g1, g2, g3⟩ := Dc p hg el a' p.funcs.length 0 tl (Nat.zero_add _) (by omega)
 rw [show ((0 : Nat) : Int) = 0 from rfl] at e1 f1 g1
 obtain ⟨C, c1, c2, c3⟩ := xb p (by omega) hle
 have hC : C.length ≤ 32 := by omega
 obtain ⟨E, E1, E2⟩ := zQ p c1 hC e
 obtain ⟨L, L1, L2⟩ := zQ p c1 hC t
 have argOk : ∀ w y, Cll (List.getD p.funcs 0 []) a' w 0 y → 0 ≤ y ∧ y < (p.funcs.length : Int) := fun w y ⟨j, _, h2, h3, _, h4⟩ => by
  have := (hg.node 0 j (by omega) h2).call h3
  rw [h4] at this
  exact this
 have elr : ∀ y ∈ el, 0 ≤ y := fun y hy => by
  rcases (f4 y).1 hy with h | h
  ·cases h
  ·exact (argOk _ _ h).1
 have llr : ∀ y ∈ ll, 0 ≤ y := fun y hy => by
  rcases (g3 y).1 hy with h | ⟨g, _, _, _, h⟩
  ·rcases (f5 y).1 h with h | h
   ·cases h
   ·exact (argOk _ _ h).1
  ·omega
 obtain ⟨er, m1, m2, m3⟩ := DZ p (by omega) hle c2 c3 el (by omega) elr
 obtain ⟨lr, n1, n2, n3⟩ := DZ p (by omega) hle c2 c3 ll (by omega) llr
 obtain ⟨Em, u1, u2⟩ := wz er (by have := m2.length_le (by omega); omega) m2
 obtain ⟨Lm, v1, v2⟩ := wz lr (by have := n2.length_le (by omega); omega) n2
 have hE : Em = E := tJ fun b => by
  rw [u2, m3, E2]
  constructor
  ·rintro ⟨z, h1, h2, h3⟩
   refine ⟨z, by omega, (e2 z).2 (.inr ⟨by omega, ?_⟩), h3⟩
   exact ((f4 _).1 h2).elim (fun h => by cases h) id
  ·rintro ⟨z, h1, h2, h3⟩
   refine ⟨z, by omega, (f4 _).2 (.inr ?_), h3⟩
   rcases (e2 z).1 h2 with h | h
   ·simp at h
   ·exact h.2
 have hL : Lm = L := tJ fun b => by
  rw [v2, n3, L2]
  constructor
  ·rintro ⟨z, h1, h2, h3⟩
   refine ⟨z, by omega, (e3 z).2 ?_, h3⟩
   rcases (g3 _).1 h2 with h | ⟨g, _, h4, h5, h6⟩
   ·exact .inr ⟨by omega, ((f5 _).1 h).elim (fun h => by cases h) id⟩
   ·have : z = g := Int.ofNat.inj h6
    rw [this]
    exact .inl ((x2 g (by omega)).2 h5)
  ·rintro ⟨z, h1, h2, h3⟩
   refine ⟨z, by omega, (g3 _).2 ?_, h3⟩
   rcases (e3 z).1 h2 with h | h
   ·exact .inr ⟨z, Nat.zero_le _, by omega, (x2 z (by omega)).1 h, rfl⟩
   ·exact .inl ((f5 _).2 (.inr h.2))
 subst hE
 subst hL
 refine ⟨a', Em, Lm, er, lr, ?_, ?_, a2, m2.length_le (by omega), n2.length_le (by omega), u2, v2, fun b h => by obtain ⟨z, h1, _, h3⟩ := (E2 b).1 h; rw [← c2]; exact F8 h3 h1, fun b h => by obtain ⟨z, h1, _, h3⟩ := (L2 b).1 h; rw [← c2]; exact F8 h3 h1⟩
 ·have q6 := Ge (List.getD p.funcs 0 []) (by omega) [] p.globals p.locks p.slots p.funcs 0#32 0#32 (List.getD p.funcs 0 []).length 0 [] (Nat.zero_add _) (Nat.le_refl _)
  rw [show ((0 : Nat) : Int) = 0 from rfl, List.nil_append] at q6
  unfold iq
  rw [bind_some hk, if_neg (show ¬ ((0 : Int) != 0) = true by decide), iP (by omega), bind_some q6, bind_some a1, bind_some x1, bind_some e1, bind_some E1, bind_some L1]
 ·have q3 := Gf p (by omega) (by omega) (List.getD p.funcs 0 []).length 0 [] (Nat.zero_add _) (Nat.le_refl _)
  rw [show ((0 : Nat) : Int) = 0 from rfl, List.nil_append] at q3
  unfold gg
  rw [bind_some q3, iP (by omega), bind_some r1, bind_some f1, bind_some g1, bind_some m1, bind_some n1]
theorem Jq {fs : FS} {f b : Nat} : May fs sg f b ↔ b < 32 ∧ ∃ g, ja fs f g ∧ Has fs 3 4 g (b : Int) := by
 constructor
 ·rintro ⟨g, h1, j, h2, h3⟩
  unfold sg at h3
  split at h3
  ·rename_i hk
   obtain ⟨h4, h5⟩ := (ik _ _).1 h3
   exact ⟨h5, g, h1, j, h2, hk, h4⟩
  ·simp at h3
 ·rintro ⟨h0, g, h1, j, h2, h3, h4⟩
  refine ⟨g, h1, j, h2, ?_⟩
  unfold sg
  rw [if_pos h3]
  exact (ik _ _).2 ⟨h4, h0⟩
theorem I8 {fs : FS} {f b : Nat} : May fs ofT f b ↔ b < 32 ∧ ∃ g, ja fs f g ∧ Has fs 1 2 g (b : Int) := by
 constructor
 ·rintro ⟨g, h1, j, h2, h3⟩
  unfold ofT at h3
  split at h3
  ·rename_i hk
   obtain ⟨h4, h5⟩ := (ik _ _).1 h3
   exact ⟨h5, g, h1, j, h2, hk, h4⟩
  ·simp at h3
 ·rintro ⟨h0, g, h1, j, h2, h3, h4⟩
  refine ⟨g, h1, j, h2, ?_⟩
  unfold ofT
  rw [if_pos h3]
  exact (ik _ _).2 ⟨h4, h0⟩
theorem Iz (p : ae) (hg : dI p) {U : List W32} (hl : U.length = p.funcs.length) (hU : ∀ f, f < p.funcs.length → ∀ b, (List.getD U f 0#32).getLsbD b = true ↔ May p.funcs sg f b) : Uss p U := ⟨hl, fun f hf => by
 obtain ⟨t, t1, t2, t3⟩ := ny p hg f hf 3 4
 refine ⟨t, ?_, t2, fun b => by rw [hU f hf, Jq, t3]⟩
 unfold bA
 rw [bind_some t1]⟩
theorem Fn (p : ae) (hg : dI p) {U : List W32} (hU : Uss p U) (f : Nat) (hf : f < p.funcs.length) : ∃ (b : Bool) (out out' : List W32) (is : Int), ey (List.getD p.funcs f []) U = some (b, out) ∧ dR p (f : Int) = some (is, out') ∧ (is = if b = true then 1 else 0) ∧ out.length = (List.getD p.funcs f []).length ∧ (b = true → out' = out) := by
 have hl := hg.len f hf
 obtain ⟨b, out, q1, q2, q3, q4⟩ := C9 (List.getD p.funcs f []) U hl.1 (by omega) (fun i hi y hy => Aw (hg.node f i hf hi) (by omega) y hy)
 obtain ⟨is, out', r1, r2, r3, r4, r5⟩ := Db p hg U hU f hf
 refine ⟨b, out, out', is, q1, r1, ?_, q2, fun hb => ?_⟩
 ·cases b with
  | true => exact (r5 _ (q3 rfl)).1
  | false =>
   rcases r2 with h | h
   ·exact h
   ·have := (q4 _ (r4 h)).1
    cases this
 ·have h := r5 _ (q3 hb)
  apply List.ext_getElem
  ·omega
  ·intro i h1 h2
   have := h.2 i (by omega)
   simpa [List.getD, h1, h2] using this
theorem Gu (l : List Int) (hl : l.length ≤ 1000) (n : Int) : gy l n = some (decide (n ∈ l)) := by
 have key : ∀ (m i : Nat), i + m = l.length → de l n (i : Int) = some (if n ∈ l.drop i then .x0 true else .x1) := by
  intro m
  induction m with
  | zero =>
   intro i hi
   rw [de, iN (by omega), List.drop_eq_nil_of_le (by omega), if_neg (by simp)]
  | succ m ih =>
   intro i hi
   have hlt : i < l.length := by omega
   have hgd : List.getD l i 0 = l[i] := by simp [List.getD, hlt]
   rw [de, iP (by omega), iP (by omega), iP (by omega), Int.toNat_natCast i, hgd, List.drop_eq_getElem_cons hlt, inc i (by omega), ih (i + 1) (by omega)]
   by_cases he : l[i] = n
   ·rw [if_pos (eqT he), if_pos (by simp [he])]
   ·rw [if_neg (eqF he)]
    have : (n ∈ l[i] :: l.drop (i + 1)) ↔ n ∈ l.drop (i + 1) := by
     rw [List.mem_cons]
     exact ⟨fun h => h.resolve_left fun e => he e.symm, .inr⟩
    by_cases hm : n ∈ l.drop (i + 1)
    ·rw [if_pos hm, if_pos (this.2 hm)]
    ·rw [if_neg hm, if_neg (fun h => hm (this.1 h))]
 have h0 := key l.length 0 (by omega)
 rw [List.drop_zero] at h0
 unfold gy
 rw [bind_some (show de l n 0 = _ from h0)]
 by_cases hm : n ∈ l
 ·rw [if_pos hm, decide_eq_true hm]
 ·rw [if_neg hm, decide_eq_false hm]
def nb (p : ae) (U : List W32) (f : Nat) : Bool := match ey (List.getD p.funcs f []) U with | some x => x.1 | none => false
def ho (p : ae) (U : List W32) (f : Nat) : List W32 := match ey (List.getD p.funcs f []) U with | some x => x.2 | none => []
theorem AP (p : ae) (hg : dI p) {U : List W32} (hU : Uss p U) (f : Nat) (hf : f < p.funcs.length) : ey (List.getD p.funcs f []) U = some (nb p U f, ho p U f) ∧ (ho p U f).length = (List.getD p.funcs f []).length ∧ ∃ out', dR p (f : Int) = some (if nb p U f = true then 1 else 0, out') ∧ (nb p U f = true → out' = ho p U f) := by
 obtain ⟨b, out, out', is, q1, q2, q3, q4, q5⟩ := Fn p hg hU f hf
 have e1 : nb p U f = b := by unfold nb; rw [q1]
 have e2 : ho p U f = out := by unfold ho; rw [q1]
 rw [e1, e2]
 exact ⟨q1, q4, out', by rw [q2, q3], q5⟩
def gt (L : W32) (beh : List Bool) (f i : Nat) : Bool := L.getLsbD f || (decide (f = 0) && List.getD beh i false)
def rp (L : W32) (beh : List Bool) (sm : W32) (f : Nat) : Nat → Nat → List W32
 | _, 0 => []
 | i, m + 1 => (if gt L beh f i = true then sm else 0#32) :: rp L beh sm f (i + 1) m
theorem ym (L : W32) (beh : List Bool) (sm : W32) (f : Nat) : ∀ (m i : Nat), (rp L beh sm f i m).length = m
 | 0, i => rfl
 | m + 1, i => by simp [rp, ym L beh sm f m (i + 1)]
theorem Ch (L : W32) (beh : List Bool) (sm : W32) (f : Nat) : ∀ (m i j : Nat), j < m → List.getD (rp L beh sm f i m) j 0#32 = if gt L beh f (i + j) = true then sm else 0#32
 | 0, i, j, h => by omega
 | m + 1, i, 0, h => rfl
 | m + 1, i, j + 1, h => by
  have := Ch L beh sm f m (i + 1) j (by omega)
  rw [show i + 1 + j = i + (j + 1) by omega] at this
  exact this
def rq (p : ae) (U : List W32) (L : W32) (beh : List Bool) (sm : W32) (f : Nat) : ac := ⟨0#32, 0#32, ho p U f, if L.getLsbD f = true then sm else 0#32, if f = 0 ∨ L.getLsbD f = true then sm else 0#32, rp L beh sm f 0 (List.getD p.funcs f []).length⟩
def iH (p : ae) (U : List W32) (L : W32) (beh : List Bool) (sm : W32) : Nat → Nat → List ac
 | _, 0 => []
 | f, m + 1 => rq p U L beh sm f :: iH p U L beh sm (f + 1) m
theorem yn (p : ae) (U : List W32) (L : W32) (beh : List Bool) (sm : W32) : ∀ (m f : Nat), (iH p U L beh sm f m).length = m
 | 0, f => rfl
 | m + 1, f => by simp [iH, yn p U L beh sm m (f + 1)]
theorem Ci (p : ae) (U : List W32) (L : W32) (beh : List Bool) (sm : W32) : ∀ (m f j : Nat), j < m → sec (iH p U L beh sm f m) j = rq p U L beh sm (f + j)
 | 0, f, j, h => by omega
 | m + 1, f, 0, h => rfl
 | m + 1, f, j + 1, h => by
  have := Ci p U L beh sm m (f + 1) j (by omega)
  rw [show f + 1 + j = f + (j + 1) by omega] at this
  exact this
theorem Do {a b : List W32} (hl : a.length = b.length) (h : ∀ j, j < a.length → List.getD a j 0#32 = List.getD b j 0#32) : a = b := by
 apply List.ext_getElem hl
 intro i h1 h2
 have := h i h1
 simpa [List.getD, h1, h2] using this
theorem Gv (L : W32) (f : Nat) (hf : f < 32) : gE L (f : Int) = some (L.getLsbD f) := by rw [FI, if_pos (by omega), Int.toNat_natCast]
theorem z5 (p : ae) (x0 : List ac) (x1 : List ah) (beh : List Bool) (U : List W32) (x4 : List ac) (x5 : List ah) (x6 : List W32) (x12 x15 : Nat → B8) (E L x16 x17 x18 x19 sm : W32) (f : Nat) (hf : f < 32) (x22 : FS) (x23 x24 : Int) (n : Nat) (hn : n ≤ 64) (hb : f = 0 → beh.length = n) : ∀ (m i : Nat) (t : List W32), i + m = n → t.length = n → (∀ j, j < i → List.getD t j 0#32 = if gt L beh f j = true then sm else 0#32) → (∀ j, i ≤ j → j < n → List.getD t j 0#32 = 0#32) →
  aS x0 x1 beh U x4 x5 x6 t p.globals p.locks p.slots p.funcs x12 E L x15 x16 x17 x18 x19 sm (f : Int) x22 x23 x24 (n : Int) (i : Int) = some (rp L beh sm f 0 n)
 | 0, i, t, h, ht, h1, h2 => by
  rw [aS, iN (by omega)]
  congr 1
  refine Do (by rw [ym, ht]) fun j hj => ?_
  rw [Ch _ _ _ _ _ _ _ (by omega), h1 j (by omega), Nat.zero_add]
 | m + 1, i, t, h, ht, h1, h2 => by
  have ih := fun t => z5 p x0 x1 beh U x4 x5 x6 x12 x15 E L x16 x17 x18 x19 sm f hf x22 x23 x24 n hn hb m (i + 1) t (by omega)
  have put : gt L beh f i = true → aS x0 x1 beh U x4 x5 x6 (t.set i sm) p.globals p.locks p.slots p.funcs x12 E L x15 x16 x17 x18 x19 sm (f : Int) x22 x23 x24 (n : Int) ((i + 1 : Nat) : Int) = some (rp L beh sm f 0 n) := fun hl => ih _ (by simpa using ht) (fun j hj => by
   rw [fg _ _ _ _ (by omega)]
   split
   ·rename_i e; subst e; rw [if_pos hl]
   ·exact h1 j (by omega)) (fun j h3 h4 => by rw [fg _ _ _ _ (by omega), if_neg (by omega)]; exact h2 j (by omega) h4)
  have no : gt L beh f i = false → aS x0 x1 beh U x4 x5 x6 t p.globals p.locks p.slots p.funcs x12 E L x15 x16 x17 x18 x19 sm (f : Int) x22 x23 x24 (n : Int) ((i + 1 : Nat) : Int) = some (rp L beh sm f 0 n) := fun hl => ih _ ht (fun j hj => by
   rcases Nat.lt_or_ge j i with h3 | h3
   ·exact h1 j h3
   ·have : j = i := by omega
    subst this
    rw [hl, if_neg (by decide)]
    exact h2 j (Nat.le_refl _) (by omega)) (fun j h3 h4 => h2 j (by omega) h4)
  rw [aS, iP (by omega), bind_some (Gv L f hf), inc i (by omega), Int.toNat_natCast i]
  by_cases hL : L.getLsbD f = true
  ·rw [if_pos hL, iP (by omega), iP (by omega)]
   exact put (by unfold gt; rw [hL]; rfl)
  ·have hL' : L.getLsbD f = false := by simpa using hL
   rw [if_neg hL]
   by_cases h0 : f = 0
   ·have hbl := hb h0
    rw [if_pos (eqT (by omega)), iP (by omega), iP (by omega)]
    by_cases hbi : List.getD beh i false = true
    ·rw [if_pos hbi, iP (by omega)]
     exact put (by unfold gt; rw [hbi, decide_eq_true h0]; simp)
    ·rw [if_neg hbi]
     exact no (by unfold gt; rw [hL', show List.getD beh i false = false by simpa using hbi]; simp)
   ·rw [if_neg (eqF (by omega))]
    exact no (by unfold gt; rw [hL', decide_eq_false h0]; rfl)
theorem Jr (n i : Nat) (h : i < n) : List.getD (List.replicate n (0#32 : W32)) i 0#32 = 0#32 := by simp [List.getD, List.getElem?_replicate, h]
theorem Cj (p : ae) (hg : dI p) {U : List W32} (hU : Uss p U) (x0 : List ac) (x1 : List ah) (beh : List Bool) (hb : beh.length = (List.getD p.funcs 0 []).length) (x5 : List ah) (x10 x13 : Nat → B8) (E L sm : W32) : ∀ (m f : Nat) (t : List ac), f + m = p.funcs.length → t.length = f →
  ((∀ g, f ≤ g → g < p.funcs.length → nb p U g = true) → bi x0 x1 beh U t x5 p.globals p.locks p.slots p.funcs x10 E L x13 sm p.funcs (p.funcs.length : Int) (f : Int) = some (.x1 (t ++ iH p U L beh sm f m))) ∧
  (¬ (∀ g, f ≤ g → g < p.funcs.length → nb p U g = true) → ∃ t', bi x0 x1 beh U t x5 p.globals p.locks p.slots p.funcs x10 E L x13 sm p.funcs (p.funcs.length : Int) (f : Int) = some (.x0 [] [] t' (fun _ => 0#8) false 0))
 | 0, f, t, h, ht => by
  rw [bi, iN (by omega)]
  exact ⟨fun _ => by simp [iH], fun hn => absurd (fun g h1 h2 => by omega) hn⟩
 | m + 1, f, t, h, ht => by
  have hn := hg.funcs.2
  have hle := hg.le f
  obtain ⟨q1, q2, _⟩ := AP p hg hU f (by omega)
  obtain ⟨i1, i2⟩ := Cj p hg hU x0 x1 beh hb x5 x10 x13 E L sm m (f + 1) (t ++ [rq p U L beh sm f]) (by omega) (by simp [ht])
  have hnb : nb p U f = true → ((∀ g, f ≤ g → g < p.funcs.length → nb p U g = true) ↔ (∀ g, f + 1 ≤ g → g < p.funcs.length → nb p U g = true)) := fun hf => ⟨fun h g h1 h2 => h g (by omega) h2, fun h g h1 h2 => by
   rcases Nat.eq_or_lt_of_le h1 with rfl | h3
   ·exact hf
   ·exact h g h3 h2⟩
  have hsize : ∀ s : ac, Nat.ble ((t.length + [s].length) * 64) az = true := fun s => Nat.ble_eq_true_of_le (by simp only [List.length_singleton, az]; omega)
  have h20 := fun x16 x17 x18 x19 => z5 p x0 x1 beh U t x5 (ho p U f) x10 x13 E L x16 x17 x18 x19 sm f (by omega) p.funcs (p.funcs.length : Int) (f : Int) (List.getD p.funcs f []).length hle (fun h0 => by rw [h0]; exact hb) (List.getD p.funcs f []).length 0 (List.replicate (List.getD p.funcs f []).length 0#32) (by omega) (by simp) (fun j hj => by omega) (fun j _ hj => Jr _ _ hj)
  rw [show ((0 : Nat) : Int) = 0 from rfl] at h20
  rw [bi, iP (by omega), iP (by omega), iP (by omega), Int.toNat_natCast f, bind_some q1, inc f (by omega)]
  dsimp only
  cases hf : nb p U f with
  | false =>
   rw [if_pos (by decide)]
   exact ⟨fun h => absurd (h f (Nat.le_refl _) (by omega)) (by rw [hf]; decide), fun _ => ⟨t, rfl⟩⟩
  | true =>
   rw [hnb hf, if_neg (by decide), iP (by omega), if_pos (decide_eq_true (by simp only [az]; omega)), Int.toNat_natCast (List.getD p.funcs f []).length]
   have e1 : t ++ iH p U L beh sm f (m + 1) = t ++ [rq p U L beh sm f] ++ iH p U L beh sm (f + 1) m := by rw [List.append_assoc]; rfl
   rw [e1]
   have fin : ∀ s : ac, s = rq p U L beh sm f → bi x0 x1 beh U (t ++ [s]) x5 p.globals p.locks p.slots p.funcs x10 E L x13 sm p.funcs (p.funcs.length : Int) ((f + 1 : Nat) : Int) = bi x0 x1 beh U (t ++ [rq p U L beh sm f]) x5 p.globals p.locks p.slots p.funcs x10 E L x13 sm p.funcs (p.funcs.length : Int) ((f + 1 : Nat) : Int) := fun s hs => by rw [hs]
   by_cases h0 : f = 0
   ·rw [if_pos (eqT (by omega)), bind_some (Gv L f (by omega))]
    by_cases hL : L.getLsbD f = true
    ·rw [if_pos hL, bind_some (h20 _ _ _ _), if_pos (hsize _), fin _ (by unfold rq; rw [if_pos hL, if_pos (.inl h0)])]
     exact ⟨i1, i2⟩
    ·rw [if_neg hL, bind_some (h20 _ _ _ _), if_pos (hsize _), fin _ (by unfold rq; rw [if_neg hL, if_pos (.inl h0)])]
     exact ⟨i1, i2⟩
   ·rw [if_neg (eqF (by omega)), bind_some (Gv L f (by omega))]
    by_cases hL : L.getLsbD f = true
    ·rw [if_pos hL, bind_some (Gv L f (by omega)), if_pos hL, bind_some (h20 _ _ _ _), if_pos (hsize _), fin _ (by unfold rq; rw [if_pos hL, if_pos (.inr hL)])]
     exact ⟨i1, i2⟩
    ·rw [if_neg hL, bind_some (Gv L f (by omega)), if_neg hL, bind_some (h20 _ _ _ _), if_pos (hsize _), fin _ (by unfold rq; rw [if_neg hL, if_neg (fun h => h.elim h0 hL)])]
     exact ⟨i1, i2⟩
def oJ (p : ae) (l : List ac) : Nat → Nat → List ah
 | _, 0 => []
 | g, m + 1 => tr ((gS p l (g : Int)).getD 0) :: oJ p l (g + 1) m
theorem z6 (p : ae) (hg : dI p) (l : List ac) (hs : Shp p l) (x0 : List ac) (x1 : List ah) (beh : List Bool) (x10 x13 : Nat → B8) (E L : W32) (G : Nat) (hG : G ≤ 16) : ∀ (m g : Nat) (t : List ah), g + m = G → t.length = g →
  ((∀ k, g ≤ k → k < G → gS p l (k : Int) ≠ none) → dZ x0 x1 beh l t p.globals p.locks p.slots p.funcs x10 E L x13 (G : Int) (g : Int) = some (.x1 (t ++ oJ p l g m))) ∧
  (¬ (∀ k, g ≤ k → k < G → gS p l (k : Int) ≠ none) → ∃ t', dZ x0 x1 beh l t p.globals p.locks p.slots p.funcs x10 E L x13 (G : Int) (g : Int) = some (.x0 [] [] t' (fun _ => 0#8) false 0))
 | 0, g, t, h, ht => by
  rw [dZ, iN (by omega)]
  exact ⟨fun _ => by simp [oJ], fun hn => absurd (fun k h1 h2 => by omega) hn⟩
 | m + 1, g, t, h, ht => by
  rw [dZ, iP (by omega), bind_some (show kq (ae.mk p.globals p.locks p.slots p.funcs) l (g : Int) = _ from HC p hg l hs (g : Int)), inc g (by omega)]
  cases hb : gS p l (g : Int) with
  | none =>
   refine ⟨fun h => absurd hb (h g (Nat.le_refl _) (by omega)), fun _ => ⟨t, ?_⟩⟩
   rfl
  | some k =>
   obtain ⟨i1, i2⟩ := z6 p hg l hs x0 x1 beh x10 x13 E L G hG m (g + 1) (t ++ [tr k]) (by omega) (by simp [ht])
   have e : (∀ j, g ≤ j → j < G → gS p l (j : Int) ≠ none) ↔ (∀ j, g + 1 ≤ j → j < G → gS p l (j : Int) ≠ none) := ⟨fun h j h1 h2 => h j (by omega) h2, fun h j h1 h2 => by
    rcases Nat.eq_or_lt_of_le h1 with rfl | h3
    ·rw [hb]; exact fun h => by cases h
    ·exact h j h3 h2⟩
   have e1 : t ++ oJ p l g (m + 1) = t ++ [tr k] ++ oJ p l (g + 1) m := by
    rw [List.append_assoc, show oJ p l g (m + 1) = tr ((gS p l (g : Int)).getD 0) :: oJ p l (g + 1) m from rfl, hb]
    rfl
   rw [e, e1]
   dsimp only
   rw [if_neg (by decide), if_pos (Nat.ble_eq_true_of_le (by simp only [List.length_singleton, az]; omega))]
   exact ⟨i1, i2⟩
def quiet (p : ae) (beh : List Bool) (i : Nat) : Prop := List.getD beh i false = true → acc (nde p 0 i) = false ∧ ((nde p 0 i).kind = 7 → ∀ b, ¬ May p.funcs ofT (nde p 0 i).arg.toNat b)
theorem z7 (p : ae) (hg : dI p) {T : List W32} (hT : T.length = p.funcs.length) (hTb : ∀ f, f < p.funcs.length → ∀ b, (List.getD T f 0#32).getLsbD b = true ↔ May p.funcs ofT f b) (beh : List Bool) (hb : beh.length = (List.getD p.funcs 0 []).length) (E L : W32) : ∀ (m i : Nat), i + m = (List.getD p.funcs 0 []).length →
  ((∀ j, i ≤ j → j < (List.getD p.funcs 0 []).length → quiet p beh j) → cD T beh E L (List.getD p.funcs 0 []) ((List.getD p.funcs 0 []).length : Int) (i : Int) = some .x1) ∧
  (¬ (∀ j, i ≤ j → j < (List.getD p.funcs 0 []).length → quiet p beh j) → cD T beh E L (List.getD p.funcs 0 []) ((List.getD p.funcs 0 []).length : Int) (i : Int) = some (.x0 false))
 | 0, i, h => by
  rw [cD, iN (by omega)]
  exact ⟨fun _ => rfl, fun hn => absurd (fun k h1 h2 => by omega) hn⟩
 | m + 1, i, h => by
  have hn := hg.funcs
  have hle := hg.le 0
  obtain ⟨i1, i2⟩ := z7 p hg hT hTb beh hb E L m (i + 1) (by omega)
  have e : quiet p beh i → ((∀ j, i ≤ j → j < (List.getD p.funcs 0 []).length → quiet p beh j) ↔ (∀ j, i + 1 ≤ j → j < (List.getD p.funcs 0 []).length → quiet p beh j)) := fun hq => ⟨fun h j h1 h2 => h j (by omega) h2, fun h j h1 h2 => by
   rcases Nat.eq_or_lt_of_le h1 with rfl | h3
   ·exact hq
   ·exact h j h3 h2⟩
  have bad : ¬ quiet p beh i → ((∀ j, i ≤ j → j < (List.getD p.funcs 0 []).length → quiet p beh j) → (some (.x0 false) : Option cY) = some .x1) ∧ (¬ (∀ j, i ≤ j → j < (List.getD p.funcs 0 []).length → quiet p beh j) → (some (.x0 false) : Option cY) = some (.x0 false)) := fun hq => ⟨fun h => absurd (h i (Nat.le_refl _) (by omega)) hq, fun _ => rfl⟩
  rw [cD, iP (by omega), iP (by omega), iP (by omega), Int.toNat_natCast i, bind_some (zW _), inc i (by omega), iP (by omega)]
  dsimp only
  by_cases hbi : List.getD beh i false = true
  ·rw [if_pos hbi]
   by_cases ha : acc (nde p 0 i) = true
   ·rw [if_pos ha]
    exact bad fun hq => by rw [(hq hbi).1] at ha; cases ha
   ·have ha' : acc (nde p 0 i) = false := by simpa using ha
    rw [if_neg ha]
    by_cases h7 : (nde p 0 i).kind = 7
    ·have hc : 0 ≤ (nde p 0 i).arg ∧ (nde p 0 i).arg < p.funcs.length := hg.calls 0 i hn.1 (by omega) h7
     have hT2 : (nde p 0 i).arg < (T.length : Int) := by rw [hT]; exact hc.2
     rw [if_pos (eqT h7), if_pos (decide_eq_true hc.1), if_pos (decide_eq_true hT2)]
     by_cases ht : List.getD T (nde p 0 i).arg.toNat 0#32 = 0#32
     ·have hq : quiet p beh i := fun _ => ⟨ha', fun _ b hm => by
       have := (hTb _ (by omega) b).2 hm
       rw [ht] at this
       simp at this⟩
      rw [if_neg (by simpa using ht), e hq]
      exact ⟨i1, i2⟩
     ·rw [if_pos (by simpa using ht)]
      refine bad fun hq => ht ?_
      apply tJ
      intro b
      rw [hTb _ (by omega)]
      exact ⟨fun h => absurd h ((hq hbi).2 h7 b), fun h => by simp at h⟩
    ·rw [if_neg (eqF h7), e fun _ => ⟨ha', fun h => absurd h h7⟩]
     exact ⟨i1, i2⟩
  ·rw [if_neg hbi, e fun h => absurd h hbi]
   exact ⟨i1, i2⟩
structure yo (p : ae) (beh : List Bool) (E L : W32) : Prop where
 begins : ∀ b, b < p.funcs.length → nz p.funcs b → b = 0
 both : ∀ b, ¬ (E.getLsbD b = true ∧ L.getLsbD b = true)
 e0 : ¬ E.getLsbD 0 = true
 l0 : ¬ L.getLsbD 0 = true
 all : ∀ b, 0 < b → b < p.funcs.length → E.getLsbD b = true ∨ L.getLsbD b = true
 quiet : ∀ j, j < (List.getD p.funcs 0 []).length → quiet p beh j
theorem Ey (b : Nat) : (1#32).getLsbD b = true ↔ b = 0 := by
 have : ∀ b : Fin 32, (1#32).getLsbD b.val = true ↔ b.val = 0 := by decide
 by_cases h : b < 32
 ·exact this ⟨b, h⟩
 ·rw [BitVec.getLsbD_of_ge _ _ (by omega)]
  exact ⟨(fun h => by cases h), fun h => by omega⟩
theorem ne0 {x : W32} : (x != 0#32) = true ↔ ∃ b, x.getLsbD b = true := by
 rw [bne_iff_ne]
 constructor
 ·intro h
  obtain ⟨k, hk⟩ := CT h
  exact ⟨k, hk.2.1⟩
 ·rintro ⟨b, hb⟩ e
  rw [e] at hb
  simp at hb
theorem Fo (p : ae) (hg : dI p) (hk : bM p = some (0, 0, 0)) (beh : List Bool) (hb : beh.length = (List.getD p.funcs 0 []).length) (E L : W32) (hE : ∀ b, E.getLsbD b = true → b < p.funcs.length) (hL : ∀ b, L.getLsbD b = true → b < p.funcs.length) : ∃ r, j6 p ⟨beh, E, L⟩ = some r ∧ (r = true ↔ yo p beh E L) := by
 have hn := hg.funcs
 have hle := hg.le 0
 obtain ⟨x, x1, x2⟩ := E6 p hg hk
 obtain ⟨T, t1, t2, t3⟩ := Di p hg hk
 obtain ⟨q1, q2⟩ := z7 p hg t2 t3 beh hb E L (List.getD p.funcs 0 []).length 0 (by omega)
 rw [show ((0 : Nat) : Int) = 0 from rfl] at q1 q2
 have no : ¬ yo p beh E L → ∃ r, (some false : Option Bool) = some r ∧ (r = true ↔ yo p beh E L) := fun h => ⟨false, rfl, (fun h => by cases h), fun h2 => absurd h2 h⟩
 unfold j6
 rw [bind_some x1, bind_some t1, bind_some (tI p.funcs.length (by omega))]
 dsimp only
 by_cases c1 : ((x &&& ~~~(1#32)) != (0#32)) = true
 ·rw [if_pos c1]
  obtain ⟨b, hb1⟩ := ne0.1 c1
  refine no fun h => ?_
  rw [BitVec.getLsbD_and, Bool.and_eq_true, BitVec.getLsbD_not, Bool.and_eq_true, x2] at hb1
  have := h.begins b hb1.1.1 hb1.1.2
  rw [this] at hb1
  exact absurd hb1.2.2 (by decide)
 ·rw [if_neg c1]
  have g1 : ∀ b, b < p.funcs.length → nz p.funcs b → b = 0 := fun b h1 h2 => by
   rcases Nat.eq_zero_or_pos b with h0 | h0
   ·exact h0
   ·exfalso
    refine c1 (ne0.2 ⟨b, ?_⟩)
    rw [BitVec.getLsbD_and, (x2 b).2 ⟨h1, h2⟩, BitVec.getLsbD_not, show (1#32).getLsbD b = false by rw [← Bool.not_eq_true, Ey]; omega]
    simp; omega
  by_cases c2 : ((E &&& L) != (0#32)) = true
  ·rw [if_pos c2]
   obtain ⟨b, hb1⟩ := ne0.1 c2
   rw [BitVec.getLsbD_and, Bool.and_eq_true] at hb1
   exact no fun h => h.both b hb1
  ·rw [if_neg c2]
   have g2 : ∀ b, ¬ (E.getLsbD b = true ∧ L.getLsbD b = true) := fun b h => c2 (ne0.2 ⟨b, by rw [BitVec.getLsbD_and, h.1, h.2]; rfl⟩)
   by_cases c3 : (((E ||| L) &&& (1#32)) != (0#32)) = true
   ·rw [if_pos c3]
    obtain ⟨b, hb1⟩ := ne0.1 c3
    rw [BitVec.getLsbD_and, Bool.and_eq_true, BitVec.getLsbD_or, Bool.or_eq_true, Ey] at hb1
    refine no fun h => ?_
    rw [hb1.2] at hb1
    exact hb1.1.elim h.e0 h.l0
   ·rw [if_neg c3]
    have g3 : ∀ y, ¬ ((E ||| L).getLsbD 0 = true ∧ y = y) := fun (y : Nat) h => c3 (ne0.2 ⟨0, by rw [BitVec.getLsbD_and, h.1]; rfl⟩)
    by_cases c4 : (((E ||| L) ||| (1#32)) != iy p.funcs.length) = true
    ·rw [if_pos c4]
     refine no fun h => ?_
     rw [bne_iff_ne] at c4
     apply c4
     apply tJ
     intro b
     rw [BitVec.getLsbD_or, Bool.or_eq_true, BitVec.getLsbD_or, Bool.or_eq_true, Ey, ib (by omega)]
     constructor
     ·rintro ((h1 | h1) | h1)
      ·exact hE b h1
      ·exact hL b h1
      ·omega
     ·intro h1
      rcases Nat.eq_zero_or_pos b with h0 | h0
      ·exact .inr h0
      ·exact .inl (h.all b h0 h1)
    ·rw [if_neg c4, iP (by omega)]
     have e4 : (E ||| L) ||| 1#32 = iy p.funcs.length := by simpa using c4
     have g4 : ∀ b, 0 < b → b < p.funcs.length → E.getLsbD b = true ∨ L.getLsbD b = true := fun b h0 h1 => by
      have h2 := (ib (n := p.funcs.length) (by omega) b).2 h1
      rw [← e4, BitVec.getLsbD_or, Bool.or_eq_true, BitVec.getLsbD_or, Bool.or_eq_true, Ey] at h2
      exact h2.resolve_right (by omega)
     by_cases c5 : ∀ j, 0 ≤ j → j < (List.getD p.funcs 0 []).length → quiet p beh j
     ·rw [bind_some (q1 c5)]
      exact ⟨true, rfl, fun _ => ⟨g1, g2, fun h => g3 0 ⟨by rw [BitVec.getLsbD_or, h]; rfl, rfl⟩, fun h => g3 0 ⟨by rw [BitVec.getLsbD_or, h]; simp, rfl⟩, g4, fun j hj => c5 j (Nat.zero_le _) hj⟩, fun _ => rfl⟩
     ·rw [bind_some (q2 c5)]
      exact no fun h => c5 fun j _ hj => h.quiet j hj
structure yp (p : ae) (U : List W32) (beh : List Bool) (E L : W32) (l : List ac) : Prop where
 nest : ∀ g, g < p.funcs.length → nb p U g = true
 just : ∀ k, k < p.globals.toNat → gS p l (k : Int) ≠ none
 part : yo p beh E L
theorem yq (p : ae) (hg : dI p) {U : List W32} (hU : Uss p U) (L : W32) (beh : List Bool) (sm : W32) : Shp p (iH p U L beh sm 0 p.funcs.length) := ⟨yn _ _ _ _ _ _ _, fun f hf => by
 rw [Ci p U L beh sm p.funcs.length 0 f hf, Nat.zero_add]
 exact ⟨(AP p hg hU f hf).2.1, ym _ _ _ _ _ _⟩⟩
theorem Fp (t : List B8) : fN (fun _ => 0#8) 0 32 (nL t) = nL t := by
 funext i
 unfold fN nL
 by_cases hi : i < 32
 ·rw [if_pos (by omega), if_pos hi, Nat.sub_zero, if_pos hi]
 ·rw [if_neg (by omega), if_neg hi]
theorem Gw (p : ae) (hg : dI p) (hk : bM p = some (0, 0, 0)) {U : List W32} (hU : Uss p U) (u1 : kA p = some (0, U)) (beh : List Bool) (E L : W32) (p1 : iq p = some (E, L, 0, beh)) (hb : beh.length = (List.getD p.funcs 0 []).length) (hE : ∀ b, E.getLsbD b = true → b < p.funcs.length) (hL : ∀ b, L.getLsbD b = true → b < p.funcs.length) :
  (yp p U beh E L (iH p U L beh (iy (p.slots.toNat + 1)) 0 p.funcs.length) → gx p = some (nL (jC p), true, 0, iH p U L beh (iy (p.slots.toNat + 1)) 0 p.funcs.length, oJ p (iH p U L beh (iy (p.slots.toNat + 1)) 0 p.funcs.length) 0 p.globals.toNat)) ∧
  (¬ yp p U beh E L (iH p U L beh (iy (p.slots.toNat + 1)) 0 p.funcs.length) → gx p = some (fun _ => 0#8, false, 0, [], [])) := by
 have hn := hg.funcs
 have hgl := hg.globals
 have hsl := hg.slots
 have hs := yq p hg hU L beh (iy (p.slots.toNat + 1))
 obtain ⟨i1, i2⟩ := Cj p hg hU [] [] beh hb [] (fun _ => 0#8) (nL (jC p)) E L (iy (p.slots.toNat + 1)) p.funcs.length 0 [] (by omega) rfl
 obtain ⟨j1, j2⟩ := z6 p hg (iH p U L beh (iy (p.slots.toNat + 1)) 0 p.funcs.length) hs [] [] beh (fun _ => 0#8) (nL (jC p)) E L p.globals.toNat (by omega) p.globals.toNat 0 [] (by omega) rfl
 rw [show ((0 : Nat) : Int) = 0 from rfl, List.nil_append] at i1 j1
 rw [show ((0 : Nat) : Int) = 0 from rfl] at i2 j2
 rw [Int.toNat_of_nonneg hgl.1] at j1 j2
 obtain ⟨r, r1, r2⟩ := Fo p hg hk beh hb E L hE hL
 have hsm : ia (am p.slots 1) = some (iy (p.slots.toNat + 1)) := by
  rw [show am p.slots 1 = ((p.slots.toNat + 1 : Nat) : Int) by rw [gQ (by omega) (by omega)]; omega]
  exact tI _ (by omega)
 unfold gx
 rw [bind_some p1]
 dsimp only
 rw [if_neg (by decide), bind_some u1, bind_some (B4 hg hk), bind_some hsm]
 dsimp only
 rw [Fp]
 by_cases c1 : ∀ g, 0 ≤ g → g < p.funcs.length → nb p U g = true
 ·rw [bind_some (i1 c1)]
  dsimp only
  by_cases c2 : ∀ k, 0 ≤ k → k < p.globals.toNat → gS p (iH p U L beh (iy (p.slots.toNat + 1)) 0 p.funcs.length) (k : Int) ≠ none
  ·rw [bind_some (j1 c2)]
   dsimp only
   rw [bind_some r1]
   cases r with
   | true =>
    rw [if_neg (by decide)]
    exact ⟨fun _ => rfl, fun h => absurd ⟨fun g hgg => c1 g (Nat.zero_le _) hgg, fun k hkk => c2 k (Nat.zero_le _) hkk, r2.1 rfl⟩ h⟩
   | false =>
    rw [if_pos (by decide)]
    exact ⟨fun h => absurd (r2.2 h.part) (by decide), fun _ => rfl⟩
  ·obtain ⟨t', e⟩ := j2 c2
   rw [bind_some e]
   exact ⟨fun h => absurd (fun k _ hkk => h.just k hkk) c2, fun _ => rfl⟩
 ·obtain ⟨t', e⟩ := i2 c1
  rw [bind_some e]
  exact ⟨fun h => absurd (fun g _ hgg => h.nest g hgg) c1, fun _ => rfl⟩
def ze : Nat → Nat → List Int
 | _, 0 => []
 | a, m + 1 => (a : Int) :: ze (a + 1) m
theorem Ck : ∀ (m a : Nat), (ze a m).length = m
 | 0, _ => rfl
 | m + 1, a => by simp [ze, Ck m (a + 1)]
theorem yr : ∀ (m a : Nat), a + m ≤ 32 → gj a (ze a m)
 | 0, _, _ => trivial
 | m + 1, a, h => ⟨Int.le_refl _, by omega, by
  have := yr m (a + 1) (by omega)
  rw [Int.toNat_natCast]
  exact this⟩
theorem Cl (b : Nat) : ∀ (m a : Nat), (b : Int) ∈ ze a m ↔ a ≤ b ∧ b < a + m
 | 0, a => ⟨fun h => (by cases h), fun h => by omega⟩
 | m + 1, a => by
  unfold ze
  rw [List.mem_cons, Cl b m (a + 1)]
  omega
theorem z8 (p : ae) (hsl : 0 ≤ p.slots ∧ p.slots ≤ 8) (x0 : List ac) (x1 : List ah) (x2 : List Bool) (x3 x4 : List Int) (x5 : List ac) (x6 : List ah) (x7 : List ac) (x8 : List ah) (x14 x15 x16 : Nat → B8) : ∀ (m k : Nat) (t : List Int), k + m = p.slots.toNat + 1 → t.length ≤ k →
  cR x0 x1 x2 x3 x4 x5 x6 x7 x8 t p.globals p.locks p.slots p.funcs x14 x15 x16 (k : Int) = some (t ++ ze k m)
 | 0, k, t, h, ht => by
  rw [cR, iN (by omega)]
  simp [ze]
 | m + 1, k, t, h, ht => by
  rw [cR, iP (by omega), if_pos (Nat.ble_eq_true_of_le (by simp only [List.length_singleton, az]; omega)), inc k (by omega), z8 p hsl x0 x1 x2 x3 x4 x5 x6 x7 x8 x14 x15 x16 m (k + 1) _ (by omega) (by simp; omega), List.append_assoc]
  rfl
theorem HD (n : Nat) (hn : n ≤ 32) : fV (ze 0 n) = some (iy n) := by
 obtain ⟨x, x1, x2⟩ := wz (ze 0 n) (by rw [Ck]; omega) (yr n 0 (by omega))
 unfold fV
 rw [bind_some x1]
 congr 1
 apply tJ
 intro b
 rw [x2, Cl, ib hn]
 omega
theorem I9 (p : ae) (hg : dI p) (f : Nat) (hf : f < p.funcs.length) : ∃ t, a8 p (f : Int) 1 2 = some t ∧ ((t.length : Int) > 0 ↔ ∃ b, May p.funcs ofT f b) := by
 obtain ⟨t, t1, t2, t3⟩ := ny p hg f hf 1 2
 refine ⟨t, t1, ?_⟩
 constructor
 ·intro h
  cases t with
  | nil => exact absurd h (by decide)
  | cons y t =>
   have hy : y = ((y.toNat : Nat) : Int) := by have := t2.1; omega
   have := (t3 y.toNat).1 (by rw [← hy]; exact List.mem_cons_self)
   exact ⟨y.toNat, I8.2 this⟩
 ·rintro ⟨b, hb⟩
  have := (t3 b).2 (I8.1 hb)
  cases t with
  | nil => cases this
  | cons y t => simp
theorem Ja (p : ae) (hg : dI p) (f : Nat) (hf : f < p.funcs.length) : ∃ t, a8 p (f : Int) 5 5 = some t ∧ ((t.length : Int) > 0 ↔ nz p.funcs f) := by
 obtain ⟨t, t1, t2, t3⟩ := ny p hg f hf 5 5
 have hn := hg.funcs
 refine ⟨t, t1, ?_⟩
 constructor
 ·intro h
  cases t with
  | nil => exact absurd h (by decide)
  | cons y t =>
   have hy : y = ((y.toNat : Nat) : Int) := by have := t2.1; omega
   obtain ⟨_, g, g1, j, j1, j2, _⟩ := (t3 y.toNat).1 (by rw [← hy]; exact List.mem_cons_self)
   exact IV (b := 0) ⟨g, g1, j, j1, by unfold ofB; rw [if_pos (j2.elim id id)]; rfl⟩
 ·intro h
  obtain ⟨g, g1, j, j1, j2⟩ := HW h
  unfold ofB at j2
  split at j2
  ·rename_i hk
   have hgl : g < p.funcs.length := by
    rcases Nat.lt_or_ge g p.funcs.length with h | h
    ·exact h
    ·rw [iL h] at j1
     exact absurd j1 (by simp)
   have ha := (hg.node g j hgl j1).spawn hk
   have := (t3 (List.getD (List.getD p.funcs g []) j aa).arg.toNat).2 ⟨by omega, g, g1, j, j1, .inl hk, by omega⟩
   cases t with
   | nil => cases this
   | cons y t => simp
  ·simp at j2
theorem yt (p : ae) (hg : dI p) (x0 : List ac) (x1 : List ah) (beh : List Bool) (el ll : List Int) (x5 : List ac) (x6 : List ah) (x7 : List ac) (x8 : List ah) (x9 : List W32) (x15 x16 x17 : Nat → B8) (x18 x19 x20 x21 L sm : W32) (f : Nat) (hf : f < p.funcs.length) (hb : f = 0 → beh.length = (List.getD p.funcs 0 []).length) : ∀ (m i : Nat) (t : List W32), i + m = (List.getD p.funcs f []).length → t.length = i →
  ((f = 0 → ∀ j, i ≤ j → j < (List.getD p.funcs f []).length → quiet p beh j) → aq x0 x1 beh el ll x5 x6 x7 x8 x9 t p.globals p.locks p.slots p.funcs x15 x16 x17 x18 x19 x20 x21 sm (f : Int) (L.getLsbD f) (i : Int) = some (.x1 (t ++ rp L beh sm f i m))) ∧
  (¬ (f = 0 → ∀ j, i ≤ j → j < (List.getD p.funcs f []).length → quiet p beh j) → ∃ t', aq x0 x1 beh el ll x5 x6 x7 x8 x9 t p.globals p.locks p.slots p.funcs x15 x16 x17 x18 x19 x20 x21 sm (f : Int) (L.getLsbD f) (i : Int) = some (.x0 t' 0))
 | 0, i, t, h, ht => by
  rw [aq, iP (by omega), iP (by omega), Int.toNat_natCast f, iN (by omega)]
  exact ⟨fun _ => by simp [rp], fun hn => absurd (fun _ k h1 h2 => by omega) hn⟩
 | m + 1, i, t, h, ht => by
  have hle := hg.le f
  have hn := hg.funcs.2
  have ih := fun t => yt p hg x0 x1 beh el ll x5 x6 x7 x8 x9 x15 x16 x17 x18 x19 x20 x21 L sm f hf hb m (i + 1) t (by omega)
  have e : (f = 0 → quiet p beh i) → ((f = 0 → ∀ j, i ≤ j → j < (List.getD p.funcs f []).length → quiet p beh j) ↔ (f = 0 → ∀ j, i + 1 ≤ j → j < (List.getD p.funcs f []).length → quiet p beh j)) := fun hq => ⟨fun h h0 j h1 h2 => h h0 j (by omega) h2, fun h h0 j h1 h2 => by
   rcases Nat.eq_or_lt_of_le h1 with rfl | h3
   ·exact hq h0
   ·exact h h0 j h3 h2⟩
  have hsize : ∀ s : W32, Nat.ble ((t.length + [s].length) * 4) az = true := fun s => Nat.ble_eq_true_of_le (by simp only [List.length_singleton, az]; omega)
  have ev : ∀ s : W32, s = (if gt L beh f i = true then sm else 0#32) → t ++ rp L beh sm f i (m + 1) = t ++ [s] ++ rp L beh sm f (i + 1) m := fun s hs => by
   rw [List.append_assoc, hs]; rfl
  have good : ∀ s : W32, s = (if gt L beh f i = true then sm else 0#32) → (f = 0 → quiet p beh i) → ((f = 0 → ∀ j, i ≤ j → j < (List.getD p.funcs f []).length → quiet p beh j) → aq x0 x1 beh el ll x5 x6 x7 x8 x9 (t ++ [s]) p.globals p.locks p.slots p.funcs x15 x16 x17 x18 x19 x20 x21 sm (f : Int) (L.getLsbD f) ((i + 1 : Nat) : Int) = some (.x1 (t ++ rp L beh sm f i (m + 1)))) ∧
    (¬ (f = 0 → ∀ j, i ≤ j → j < (List.getD p.funcs f []).length → quiet p beh j) → ∃ t', aq x0 x1 beh el ll x5 x6 x7 x8 x9 (t ++ [s]) p.globals p.locks p.slots p.funcs x15 x16 x17 x18 x19 x20 x21 sm (f : Int) (L.getLsbD f) ((i + 1 : Nat) : Int) = some (.x0 t' 0)) := fun s hs hq => by
   rw [e hq, ev s hs]
   exact ih (t ++ [s]) (by simp [ht])
  have bad : ∀ t', f = 0 → ¬ quiet p beh i → ((f = 0 → ∀ j, i ≤ j → j < (List.getD p.funcs f []).length → quiet p beh j) → (some (.x0 t' 0) : Option bu) = some (.x1 (t ++ rp L beh sm f i (m + 1)))) ∧ (¬ (f = 0 → ∀ j, i ≤ j → j < (List.getD p.funcs f []).length → quiet p beh j) → ∃ t'', (some (.x0 t' 0) : Option bu) = some (.x0 t'' 0)) := fun t' h0 hq => ⟨fun h => absurd (h h0 i (Nat.le_refl _) (by omega)) hq, fun _ => ⟨t', rfl⟩⟩
  have hcall : f = 0 → (nde p f i).kind = 7 → 0 ≤ (nde p f i).arg ∧ (nde p f i).arg < p.funcs.length := fun _ h7 => hg.calls f i hf (by omega) h7
  have tail : ∀ s : W32, s = (if gt L beh f i = true then sm else 0#32) → f = 0 → List.getD beh i false = true → ((f = 0 → ∀ j, i ≤ j → j < (List.getD p.funcs f []).length → quiet p beh j) → (if ((nde p f i).kind == 1) = true then some (.x0 (t ++ [s]) 0) else if ((nde p f i).kind == 2) = true then some (.x0 (t ++ [s]) 0) else if ((nde p f i).kind == 7) = true then bind (a8 (ae.mk p.globals p.locks p.slots p.funcs) (nde p f i).arg 1 2) fun v => if decide ((v.length : Int) > 0) = true then some (.x0 (t ++ [s]) 0) else aq x0 x1 beh el ll x5 x6 x7 x8 x9 (t ++ [s]) p.globals p.locks p.slots p.funcs x15 x16 x17 x18 x19 x20 x21 sm (f : Int) (L.getLsbD f) ((i + 1 : Nat) : Int) else aq x0 x1 beh el ll x5 x6 x7 x8 x9 (t ++ [s]) p.globals p.locks p.slots p.funcs x15 x16 x17 x18 x19 x20 x21 sm (f : Int) (L.getLsbD f) ((i + 1 : Nat) : Int)) = some (.x1 (t ++ rp L beh sm f i (m + 1)))) ∧
    (¬ (f = 0 → ∀ j, i ≤ j → j < (List.getD p.funcs f []).length → quiet p beh j) → ∃ t', (if ((nde p f i).kind == 1) = true then some (.x0 (t ++ [s]) 0) else if ((nde p f i).kind == 2) = true then some (.x0 (t ++ [s]) 0) else if ((nde p f i).kind == 7) = true then bind (a8 (ae.mk p.globals p.locks p.slots p.funcs) (nde p f i).arg 1 2) fun v => if decide ((v.length : Int) > 0) = true then some (.x0 (t ++ [s]) 0) else aq x0 x1 beh el ll x5 x6 x7 x8 x9 (t ++ [s]) p.globals p.locks p.slots p.funcs x15 x16 x17 x18 x19 x20 x21 sm (f : Int) (L.getLsbD f) ((i + 1 : Nat) : Int) else aq x0 x1 beh el ll x5 x6 x7 x8 x9 (t ++ [s]) p.globals p.locks p.slots p.funcs x15 x16 x17 x18 x19 x20 x21 sm (f : Int) (L.getLsbD f) ((i + 1 : Nat) : Int)) = some (.x0 t' 0)) := fun s hs h0 hbi => by
   have hnd : nde p 0 i = nde p f i := by rw [h0]
   by_cases k1 : (nde p f i).kind = 1
   ·rw [if_pos (eqT k1)]
    exact bad _ h0 fun hq => by
     have := (hq hbi).1
     rw [hnd] at this
     unfold acc at this
     rw [eqT k1] at this
     cases this
   ·rw [if_neg (eqF k1)]
    by_cases k2 : (nde p f i).kind = 2
    ·rw [if_pos (eqT k2)]
     exact bad _ h0 fun hq => by
      have := (hq hbi).1
      rw [hnd] at this
      unfold acc at this
      rw [eqT k2, Bool.or_true] at this
      cases this
    ·have ha : acc (nde p f i) = false := by unfold acc; rw [show ((nde p f i).kind == 1) = false by simpa using k1, show ((nde p f i).kind == 2) = false by simpa using k2]; rfl
     rw [if_neg (eqF k2)]
     by_cases k7 : (nde p f i).kind = 7
     ·have hc := hcall h0 k7
      obtain ⟨w, w1, w2⟩ := I9 p hg (nde p f i).arg.toNat (by omega)
      rw [Int.toNat_of_nonneg hc.1] at w1
      rw [if_pos (eqT k7), bind_some (show a8 (ae.mk p.globals p.locks p.slots p.funcs) (nde p f i).arg 1 2 = some w from w1)]
      by_cases hw : (w.length : Int) > 0
      ·rw [if_pos (decide_eq_true hw)]
       obtain ⟨b, hbm⟩ := w2.1 hw
       exact bad _ h0 fun hq => (hq hbi).2 (by rw [hnd]; exact k7) b (by rw [hnd]; exact hbm)
      ·rw [if_neg (by simpa using hw)]
       exact good s hs fun _ _ => by rw [hnd]; exact ⟨ha, fun _ b hbm => hw (w2.2 ⟨b, hbm⟩)⟩
     ·rw [if_neg (eqF k7)]
      exact good s hs fun _ _ => by rw [hnd]; exact ⟨ha, fun h7 => absurd h7 k7⟩
  rw [aq, iP (by omega), iP (by omega), Int.toNat_natCast f, iP (by omega), iP (by omega), iP (by omega), Int.toNat_natCast i, inc i (by omega)]
  by_cases hL : L.getLsbD f = true
  ·have hlt : gt L beh f i = true := by unfold gt; rw [hL]; rfl
   have hs : sm = (if gt L beh f i = true then sm else 0#32) := by rw [if_pos hlt]
   rw [if_pos hL, if_pos (hsize sm)]
   by_cases h0 : f = 0
   ·have hbl := hb h0
    have hlen0 : (List.getD p.funcs f []).length = (List.getD p.funcs 0 []).length := by rw [h0]
    rw [if_pos (eqT (by omega)), iP (by omega)]
    by_cases hbi : List.getD beh i false = true
    ·rw [if_pos hbi]
     exact tail sm hs h0 hbi
    ·rw [if_neg hbi]
     exact good sm hs fun _ h => absurd h hbi
   ·rw [if_neg (eqF (by omega))]
    exact good sm hs fun h => absurd h h0
  ·have hL' : L.getLsbD f = false := by simpa using hL
   rw [if_neg hL]
   by_cases h0 : f = 0
   ·have hbl := hb h0
    have hlen0 : (List.getD p.funcs f []).length = (List.getD p.funcs 0 []).length := by rw [h0]
    rw [if_pos (eqT (by omega)), iP (by omega)]
    by_cases hbi : List.getD beh i false = true
    ·have hlt : gt L beh f i = true := by unfold gt; rw [hbi, decide_eq_true h0]; simp
     have hs : sm = (if gt L beh f i = true then sm else 0#32) := by rw [if_pos hlt]
     rw [if_pos hbi, if_pos (hsize sm)]
     exact tail sm hs h0 hbi
    ·have hlt : gt L beh f i = false := by unfold gt; rw [hL', show List.getD beh i false = false by simpa using hbi]; simp
     have hs : 0#32 = (if gt L beh f i = true then sm else 0#32) := by rw [if_neg (by rw [hlt]; decide)]
     rw [if_neg hbi, if_pos (hsize 0#32)]
     exact good 0#32 hs fun _ h => absurd h hbi
   ·have hlt : gt L beh f i = false := by unfold gt; rw [hL', decide_eq_false h0]; rfl
    have hs : 0#32 = (if gt L beh f i = true then sm else 0#32) := by rw [if_neg (by rw [hlt]; decide)]
    rw [if_neg (eqF (by omega)), if_pos (hsize 0#32)]
    exact good 0#32 hs fun h => absurd h h0
structure OkF (p : ae) (U : List W32) (beh : List Bool) (E L : W32) (f : Nat) : Prop where
 nest : nb p U f = true
 sp : 0 < f → ¬ nz p.funcs f
 zero : f = 0 → ¬ E.getLsbD 0 = true ∧ ¬ L.getLsbD 0 = true
 one : 0 < f → E.getLsbD f ≠ L.getLsbD f
 quiet : f = 0 → ∀ j, 0 ≤ j → j < (List.getD p.funcs f []).length → quiet p beh j
theorem HE {p : ae} {U : List W32} {beh : List Bool} {E L : W32} (hn : 0 < p.funcs.length) (hE : ∀ b, E.getLsbD b = true → b < p.funcs.length) (hL : ∀ b, L.getLsbD b = true → b < p.funcs.length) : (∀ f, 0 ≤ f → f < p.funcs.length → OkF p U beh E L f) ↔ (∀ g, g < p.funcs.length → nb p U g = true) ∧ yo p beh E L := by
 constructor
 ·intro h
  have h0 := h 0 (Nat.le_refl _) hn
  refine ⟨fun g hg => (h g (Nat.zero_le _) hg).nest, ⟨fun b hb hs => ?_, fun b hb => ?_, (h0.zero rfl).1, (h0.zero rfl).2, fun b h1 h2 => ?_, fun j hj => h0.quiet rfl j (Nat.zero_le _) hj⟩⟩
  ·rcases Nat.eq_zero_or_pos b with h1 | h1
   ·exact h1
   ·exact absurd hs ((h b (Nat.zero_le _) hb).sp h1)
  ·rcases Nat.eq_zero_or_pos b with h1 | h1
   ·rw [h1] at hb; exact (h0.zero rfl).1 hb.1
   ·exact (h b (Nat.zero_le _) (hE b hb.1)).one h1 (by rw [hb.1, hb.2])
  ·have := (h b (Nat.zero_le _) h2).one h1
   cases he : E.getLsbD b with
   | true => exact .inl rfl
   | false =>
    cases hl : L.getLsbD b with
    | true => exact .inr rfl
    | false => exact absurd (he.trans hl.symm) this
 ·rintro ⟨h1, h2⟩ f _ hf
  refine ⟨h1 f hf, fun h0 hs => ?_, fun _ => ⟨h2.e0, h2.l0⟩, fun h0 he => ?_, fun h0 j _ hj => h2.quiet j (by rw [h0] at hj; exact hj)⟩
  ·have := h2.begins f hf hs; omega
  ·rcases h2.all f h0 hf with h | h
   ·exact h2.both f ⟨h, by rw [← he]; exact h⟩
   ·exact h2.both f ⟨by rw [he]; exact h, h⟩
theorem yu (p : ae) (hg : dI p) {U : List W32} (hU : Uss p U) (x0 : List ac) (x1 : List ah) (beh : List Bool) (hb : beh.length = (List.getD p.funcs 0 []).length) (el ll : List Int) (hel : el.length ≤ 32) (hll : ll.length ≤ 32) (E L sm : W32) (hE : ∀ b : Nat, E.getLsbD b = true ↔ (b : Int) ∈ el) (hL : ∀ b : Nat, L.getLsbD b = true ↔ (b : Int) ∈ ll) (x5 : List ac) (x6 x8 : List ah) (x13 x14 x15 : Nat → B8) : ∀ (m f : Nat) (t : List ac), f + m = p.funcs.length → t.length = f →
  ((∀ g, f ≤ g → g < p.funcs.length → OkF p U beh E L g) → aM x0 x1 beh el ll x5 x6 t x8 p.globals p.locks p.slots p.funcs x13 x14 x15 sm (f : Int) = some (.x1 (t ++ iH p U L beh sm f m))) ∧
  (¬ (∀ g, f ≤ g → g < p.funcs.length → OkF p U beh E L g) → ∃ t', aM x0 x1 beh el ll x5 x6 t x8 p.globals p.locks p.slots p.funcs x13 x14 x15 sm (f : Int) = some (.x0 t' 0))
 | 0, f, t, h, ht => by
  rw [aM, iN (by omega)]
  exact ⟨fun _ => by simp [iH], fun hn => absurd (fun g h1 h2 => by omega) hn⟩
 | m + 1, f, t, h, ht => by
  have hn := hg.funcs.2
  have hle := hg.le f
  obtain ⟨_, q2, out', q3, q4⟩ := AP p hg hU f (by omega)
  obtain ⟨i1, i2⟩ := yu p hg hU x0 x1 beh hb el ll hel hll E L sm hE hL x5 x6 x8 x13 x14 x15 m (f + 1) (t ++ [rq p U L beh sm f]) (by omega) (by simp [ht])
  have e : OkF p U beh E L f → ((∀ g, f ≤ g → g < p.funcs.length → OkF p U beh E L g) ↔ (∀ g, f + 1 ≤ g → g < p.funcs.length → OkF p U beh E L g)) := fun hf => ⟨fun h g h1 h2 => h g (by omega) h2, fun h g h1 h2 => by
   rcases Nat.eq_or_lt_of_le h1 with rfl | h3
   ·exact hf
   ·exact h g h3 h2⟩
  have bad : ¬ OkF p U beh E L f → ∀ t', ((∀ g, f ≤ g → g < p.funcs.length → OkF p U beh E L g) → (some (.x0 t' 0) : Option bv) = some (.x1 (t ++ iH p U L beh sm f (m + 1)))) ∧ (¬ (∀ g, f ≤ g → g < p.funcs.length → OkF p U beh E L g) → ∃ t'', (some (.x0 t' 0) : Option bv) = some (.x0 t'' 0)) := fun hf t' => ⟨fun h => absurd (h f (Nat.le_refl _) (by omega)) hf, fun _ => ⟨t', rfl⟩⟩
  have hsize : ∀ s : ac, Nat.ble ((t.length + [s].length) * 64) az = true := fun s => Nat.ble_eq_true_of_le (by simp only [List.length_singleton, az]; omega)
  have e1 : t ++ iH p U L beh sm f (m + 1) = t ++ [rq p U L beh sm f] ++ iH p U L beh sm (f + 1) m := by rw [List.append_assoc]; rfl
  have hEf : decide ((f : Int) ∈ el) = E.getLsbD f := by
   cases hq : E.getLsbD f with
   | true => exact decide_eq_true ((hE f).1 hq)
   | false => exact decide_eq_false fun h => by rw [(hE f).2 h] at hq; cases hq
  have hLf : decide ((f : Int) ∈ ll) = L.getLsbD f := by
   cases hq : L.getLsbD f with
   | true => exact decide_eq_true ((hL f).1 hq)
   | false => exact decide_eq_false fun h => by rw [(hL f).2 h] at hq; cases hq
  obtain ⟨w, w1, w2⟩ := Ja p hg f (by omega)
  have h25 := fun held x18 x19 x20 x21 => yt p hg x0 x1 beh el ll x5 x6 t x8 held x13 x14 x15 x18 x19 x20 x21 L sm f (by omega) (fun h0 => hb) (List.getD p.funcs f []).length 0 [] (by omega) rfl
  rw [show ((0 : Nat) : Int) = 0 from rfl] at h25
  rw [aM, iP (by omega), bind_some (show dR (ae.mk p.globals p.locks p.slots p.funcs) (f : Int) = _ from q3), bind_some (Gu el (by omega) (f : Int)), bind_some (Gu ll (by omega) (f : Int)), hEf, hLf, inc f (by omega)]
  dsimp only
  cases hf : nb p U f with
  | false =>
   rw [if_pos (by decide)]
   exact bad (fun h => by have := h.nest; rw [hf] at this; cases this) t
  | true =>
   rw [if_neg (by decide), q4 hf]
   have fin : ∀ (s : List W32 → ac), (s (rp L beh sm f 0 (List.getD p.funcs f []).length) = rq p U L beh sm f) → (0 < f → ¬ nz p.funcs f) → (f = 0 → ¬ E.getLsbD 0 = true ∧ ¬ L.getLsbD 0 = true) → (0 < f → E.getLsbD f ≠ L.getLsbD f) → ∀ x18 x19 x20 x21,
     ((∀ g, f ≤ g → g < p.funcs.length → OkF p U beh E L g) → (bind (aq x0 x1 beh el ll x5 x6 t x8 (ho p U f) [] p.globals p.locks p.slots p.funcs x13 x14 x15 x18 x19 x20 x21 sm (f : Int) (L.getLsbD f) 0) fun q => (match q with | .x0 v58 v59 => some (.x0 t v59) | .x1 v60 => if (Nat.ble ((List.length t + List.length ([s v60])) * 64) az) = true then aM x0 x1 beh el ll x5 x6 (t ++ ([s v60])) x8 p.globals p.locks p.slots p.funcs x13 x14 x15 sm ((f + 1 : Nat) : Int) else none)) = some (.x1 (t ++ iH p U L beh sm f (m + 1)))) ∧
     (¬ (∀ g, f ≤ g → g < p.funcs.length → OkF p U beh E L g) → ∃ t', (bind (aq x0 x1 beh el ll x5 x6 t x8 (ho p U f) [] p.globals p.locks p.slots p.funcs x13 x14 x15 x18 x19 x20 x21 sm (f : Int) (L.getLsbD f) 0) fun q => (match q with | .x0 v58 v59 => some (.x0 t v59) | .x1 v60 => if (Nat.ble ((List.length t + List.length ([s v60])) * 64) az) = true then aM x0 x1 beh el ll x5 x6 (t ++ ([s v60])) x8 p.globals p.locks p.slots p.funcs x13 x14 x15 sm ((f + 1 : Nat) : Int) else none)) = some (.x0 t' 0)) := by
    intro s hs c1 c2 c3 x18 x19 x20 x21
    obtain ⟨g1, g2⟩ := h25 (ho p U f) x18 x19 x20 x21
    by_cases hq : f = 0 → ∀ j, 0 ≤ j → j < (List.getD p.funcs f []).length → quiet p beh j
    ·have hok : OkF p U beh E L f := ⟨hf, c1, c2, c3, hq⟩
     rw [bind_some (g1 hq), List.nil_append]
     dsimp only
     rw [if_pos (hsize _), hs, e hok, e1]
     exact ⟨i1, i2⟩
    ·obtain ⟨t', g3⟩ := g2 hq
     rw [bind_some g3]
     exact bad (fun h => hq h.quiet) t
   by_cases h0 : f = 0
   ·rw [iN (by omega), if_pos (eqT (by omega))]
    have hb0 : ∀ x : W32, x.getLsbD f = x.getLsbD 0 := fun x => by rw [h0]
    by_cases hE0 : E.getLsbD f = true
    ·rw [if_pos hE0]
     exact bad (fun h => (h.zero h0).1 (by rw [← hb0]; exact hE0)) t
    ·rw [if_neg hE0]
     by_cases hL0 : L.getLsbD f = true
     ·rw [if_pos hL0]
      exact bad (fun h => (h.zero h0).2 (by rw [← hb0]; exact hL0)) t
     ·rw [if_neg hL0]
      exact fin (fun v => ⟨0#32, 0#32, ho p U f, 0#32, sm, v⟩) (by unfold rq; rw [if_neg hL0, if_pos (.inl h0)]) (fun h => by omega) (fun _ => ⟨by rw [← hb0]; exact hE0, by rw [← hb0]; exact hL0⟩) (fun h => by omega) _ _ _ _
   ·rw [iP (by omega), bind_some (show a8 (ae.mk p.globals p.locks p.slots p.funcs) (f : Int) 5 5 = some w from w1)]
    by_cases hw : (w.length : Int) > 0
    ·rw [if_pos (decide_eq_true hw)]
     exact bad (fun h => h.sp (by omega) (w2.1 hw)) t
    ·rw [if_neg (by simpa using hw), if_neg (eqF (by omega))]
     have hsp : ¬ nz p.funcs f := fun h => hw (w2.2 h)
     by_cases hel2 : (E.getLsbD f == L.getLsbD f) = true
     ·rw [if_pos hel2]
      exact bad (fun h => h.one (by omega) (by simpa using hel2)) t
     ·rw [if_neg hel2]
      have hne : E.getLsbD f ≠ L.getLsbD f := by simpa using hel2
      by_cases hL0 : L.getLsbD f = true
      ·rw [if_pos hL0]
       exact fin (fun v => ⟨0#32, 0#32, ho p U f, sm, sm, v⟩) (by unfold rq; rw [if_pos hL0, if_pos (.inr hL0)]) (fun _ => hsp) (fun h => absurd h h0) (fun _ => hne) _ _ _ _
      ·rw [if_neg hL0]
       exact fin (fun v => ⟨0#32, 0#32, ho p U f, 0#32, 0#32, v⟩) (by unfold rq; rw [if_neg hL0, if_neg (fun h => h.elim h0 hL0)]) (fun _ => hsp) (fun h => absurd h h0) (fun _ => hne) _ _ _ _
theorem yv (p : ae) (hg : dI p) (l : List ac) (hs : Shp p l) (x0 : List ac) (x1 : List ah) (x2 : List ac) (x3 : List ah) (x10 x11 x12 : Nat → B8) : ∀ (m g : Nat) (t : List ah), g + m = p.globals.toNat → t.length = g →
  ((∀ k, g ≤ k → k < p.globals.toNat → gS p l (k : Int) ≠ none) → bL x0 x1 x2 x3 l t p.globals p.locks p.slots p.funcs x10 x11 x12 (g : Int) = some (.x1 (t ++ oJ p l g m))) ∧
  (¬ (∀ k, g ≤ k → k < p.globals.toNat → gS p l (k : Int) ≠ none) → ∃ t', bL x0 x1 x2 x3 l t p.globals p.locks p.slots p.funcs x10 x11 x12 (g : Int) = some (.x0 t' 0))
 | 0, g, t, h, ht => by
  have := hg.globals
  rw [bL, iN (by omega)]
  exact ⟨fun _ => by simp [oJ], fun hn => absurd (fun k h1 h2 => by omega) hn⟩
 | m + 1, g, t, h, ht => by
  have hgl := hg.globals
  rw [bL, iP (by omega), bind_some (show gh (ae.mk p.globals p.locks p.slots p.funcs) l (g : Int) = _ from Dm p hg l hs (g : Int)), inc g (by omega)]
  cases hb : gS p l (g : Int) with
  | none =>
   refine ⟨fun h => absurd hb (h g (Nat.le_refl _) (by omega)), fun _ => ⟨t, ?_⟩⟩
   rfl
  | some k =>
   obtain ⟨i1, i2⟩ := yv p hg l hs x0 x1 x2 x3 x10 x11 x12 m (g + 1) (t ++ [tr k]) (by omega) (by simp [ht])
   have e : (∀ j, g ≤ j → j < p.globals.toNat → gS p l (j : Int) ≠ none) ↔ (∀ j, g + 1 ≤ j → j < p.globals.toNat → gS p l (j : Int) ≠ none) := ⟨fun h j h1 h2 => h j (by omega) h2, fun h j h1 h2 => by
    rcases Nat.eq_or_lt_of_le h1 with rfl | h3
    ·rw [hb]; exact fun h => by cases h
    ·exact h j h3 h2⟩
   have e1 : t ++ oJ p l g (m + 1) = t ++ [tr k] ++ oJ p l (g + 1) m := by
    rw [List.append_assoc, show oJ p l g (m + 1) = tr ((gS p l (g : Int)).getD 0) :: oJ p l (g + 1) m from rfl, hb]
    rfl
   rw [e, e1]
   dsimp only
   rw [if_neg (by decide), if_pos (Nat.ble_eq_true_of_le (by simp only [List.length_singleton, az]; omega))]
   exact ⟨i1, i2⟩
theorem Fq (p : ae) (hg : dI p) {U : List W32} (hU : Uss p U) (beh : List Bool) (E L : W32) (el ll : List Int) (p1 : gg p = some (beh, el, ll)) (hb : beh.length = (List.getD p.funcs 0 []).length) (hel : el.length ≤ 32) (hll : ll.length ≤ 32) (hEm : ∀ b : Nat, E.getLsbD b = true ↔ (b : Int) ∈ el) (hLm : ∀ b : Nat, L.getLsbD b = true ↔ (b : Int) ∈ ll) (hE : ∀ b, E.getLsbD b = true → b < p.funcs.length) (hL : ∀ b, L.getLsbD b = true → b < p.funcs.length) :
  (yp p U beh E L (iH p U L beh (iy (p.slots.toNat + 1)) 0 p.funcs.length) → fW p = some (nL (jC p), 1, iH p U L beh (iy (p.slots.toNat + 1)) 0 p.funcs.length, oJ p (iH p U L beh (iy (p.slots.toNat + 1)) 0 p.funcs.length) 0 p.globals.toNat)) ∧
  (¬ yp p U beh E L (iH p U L beh (iy (p.slots.toNat + 1)) 0 p.funcs.length) → fW p = some (fun _ => 0#8, 0, [], [])) := by
 have hn := hg.funcs
 have hsl := hg.slots
 have hlen := uO hg
 have hs := yq p hg hU L beh (iy (p.slots.toNat + 1))
 have h6 := z8 p hsl [] [] beh el ll [] [] [] [] (fun _ => 0#8) (fun _ => 0#8) (nL (jC p)) (p.slots.toNat + 1) 0 [] (by omega) (Nat.le_refl _)
 obtain ⟨i1, i2⟩ := yu p hg hU [] [] beh hb el ll hel hll E L (iy (p.slots.toNat + 1)) hEm hLm [] [] [] (fun _ => 0#8) (fun _ => 0#8) (nL (jC p)) p.funcs.length 0 [] (by omega) rfl
 obtain ⟨j1, j2⟩ := yv p hg (iH p U L beh (iy (p.slots.toNat + 1)) 0 p.funcs.length) hs [] [] [] [] (fun _ => 0#8) (fun _ => 0#8) (nL (jC p)) p.globals.toNat 0 [] (by omega) rfl
 rw [show ((0 : Nat) : Int) = 0 from rfl, List.nil_append] at h6 i1 j1
 rw [show ((0 : Nat) : Int) = 0 from rfl] at i2 j2
 have hall := HE (p := p) (U := U) (beh := beh) hn.1 hE hL
 unfold fW
 rw [bind_some p1]
 dsimp only
 rw [bind_some (Gn hg), bind_some (Iv _ (by omega)), bind_some h6, bind_some (HD _ (by omega))]
 by_cases c1 : ∀ g, 0 ≤ g → g < p.funcs.length → OkF p U beh E L g
 ·rw [bind_some (i1 c1)]
  dsimp only
  obtain ⟨n1, n2⟩ := hall.1 c1
  by_cases c2 : ∀ k, 0 ≤ k → k < p.globals.toNat → gS p (iH p U L beh (iy (p.slots.toNat + 1)) 0 p.funcs.length) (k : Int) ≠ none
  ·rw [bind_some (j1 c2)]
   exact ⟨fun _ => rfl, fun h => absurd ⟨n1, fun k hkk => c2 k (Nat.zero_le _) hkk, n2⟩ h⟩
  ·obtain ⟨t', e⟩ := j2 c2
   rw [bind_some e]
   exact ⟨fun h => absurd (fun k _ hkk => h.just k hkk) c2, fun _ => rfl⟩
 ·obtain ⟨t', e⟩ := i2 c1
  rw [bind_some e]
  exact ⟨fun h => absurd (hall.2 ⟨h.nest, h.part⟩) c1, fun _ => rfl⟩
theorem Cm (p : ae) (l : List ac) : ∀ (m g : Nat), (oJ p l g m).length = m
 | 0, _ => rfl
 | m + 1, g => by simp [oJ, Cm p l m (g + 1)]
theorem Fs (p : ae) {a b e : Int} (hk : bM p = some (a, b, e)) (he : e ≠ 0) : gx p = some (fun _ => 0#8, false, e, [], []) := by
 unfold gx
 rw [bind_some (Gg p hk he)]
 dsimp only
 rw [if_pos (neT he)]
theorem z9 : fw ⟨fun _ => 0#8, [], []⟩ ⟨fun _ => 0#8, [], []⟩ = some true := z4 ⟨fun _ => 0#8, [], []⟩ (by decide) (by decide) (fun f hf => absurd hf (by show ¬ f < 0; omega)) _ fun _ _ => rfl
theorem Cn (p : ae) : f8 p = some true := by
 unfold f8
 rw [bind_some D1, if_neg (by decide)]
 obtain ⟨sm, s1, s2⟩ := FF p
 rw [bind_some s1]
 cases sm with
 | false => rw [if_pos (by decide), bind_some D1]
 | true =>
  rw [if_neg (by decide)]
  obtain ⟨⟨ra, rb, re⟩, r1, r2, r3, r4⟩ := FE p
  by_cases he : re = 0
  ·obtain ⟨r5, hg⟩ := r3 he
   rw [r5] at r1 r2
   obtain ⟨U, u1, u2, u3⟩ := HA p hg r1
   have hU := Iz p hg u2 u3
   obtain ⟨beh, E, L, el, ll, p1, p2, hb, hel, hll, hEm, hLm, hE, hL⟩ := Dn p hg r1
   obtain ⟨b1, b2⟩ := Gw p hg r1 hU u1 beh E L p1 hb hE hL
   obtain ⟨d1, d2⟩ := Fq p hg hU beh E L el ll p2 hb hel hll hEm hLm hE hL
   have hs := yq p hg hU L beh (iy (p.slots.toNat + 1))
   have hn := hg.funcs
   have hgl := hg.globals
   by_cases hD : yp p U beh E L (iH p U L beh (iy (p.slots.toNat + 1)) 0 p.funcs.length)
   ·rw [bind_some (b1 hD), bind_some r2]
    dsimp only
    rw [if_neg (by decide), bind_some (d1 hD)]
    dsimp only
    rw [if_pos (by decide), if_pos (by decide), bind_some (z4 ⟨nL (jC p), iH p U L beh (iy (p.slots.toNat + 1)) 0 p.funcs.length, oJ p (iH p U L beh (iy (p.slots.toNat + 1)) 0 p.funcs.length) 0 p.globals.toNat⟩ (by dsimp only; rw [yn]; omega) (by dsimp only; rw [Cm]; omega) (fun f hf => by
     have hf2 : f < p.funcs.length := by have := hs.1; dsimp only at hf; omega
     have h1 := hs.2 f hf2
     have h2 := hg.le f
     dsimp only
     exact ⟨by omega, by omega⟩) _ fun _ _ => rfl)]
   ·rw [bind_some (b2 hD), bind_some r2]
    dsimp only
    rw [if_neg (by decide), bind_some (d2 hD)]
    dsimp only
    rw [if_pos (by decide), if_pos (by decide), bind_some z9]
  ·rw [bind_some (Fs p r1 he), bind_some r2]
   dsimp only
   rw [if_pos (neT he), if_pos (eqT rfl), if_pos (by decide), bind_some z9]
end Go.Bm.GoYtipjbmnfnmlkfaaDoor
