import Derived.Test.YtipjbmnfnmlkfaaDoorLcBa
namespace Go.Bm.GoYtipjbmnfnmlkfaaDoor
set_option autoImplicit false
set_option linter.unusedVariables false
set_option linter.unusedSimpArgs false
set_option maxRecDepth 100000
theorem qq {x : W32} {k : Nat} (h : Low x k) (i : Nat) : (x &&& (x - 1#32)).getLsbD i = true ↔ x.getLsbD i = true ∧ i ≠ k := by
 rw [← BitVec.not_neg, BitVec.getLsbD_and, BitVec.getLsbD_not, BitVec.getLsbD_neg]
 have h1 := zF h i
 by_cases hi : i < 32
 ·by_cases c : k < i
  ·have : decide (∃ j, j < i ∧ x.getLsbD j = true) = true := decide_eq_true (h1.2 c)
   rw [this]
   have : i ≠ k := by omega
   cases x.getLsbD i <;> simp [hi, this]
  ·have : decide (∃ j, j < i ∧ x.getLsbD j = true) = false := decide_eq_false fun hh => c (h1.1 hh)
   rw [this]
   by_cases e : i = k
   ·subst e
    rw [h.2.1]
    simp
   ·have h2 : x.getLsbD i = false := by
     rw [← Bool.not_eq_true]
     exact h.2.2 i (by omega)
    rw [h2]
    simp
 ·have h2 : x.getLsbD i = false := BitVec.getLsbD_of_ge _ _ (by omega)
  rw [h2]
  simp
theorem C8 : ∀ k : Fin 32, (BitVec.toNat (((BitVec.twoPow 32 k.val) * (125613361#32)) >>> (BitVec.toNat (27#64))) < 32) ∧ BitVec.toNat (DV (BitVec.toNat (((BitVec.twoPow 32 k.val) * (125613361#32)) >>> (BitVec.toNat (27#64))))) = k.val := by decide +kernel
theorem IY {x : W32} {k : Nat} (h : Low x k) : d7 x = some (k : Int) := by
 have hx : ¬ (x == 0#32) = true := fun hh => by
  have h2 := h.2.1
  rw [beq_iff_eq.1 hh] at h2
  simp at h2
 obtain ⟨t1, t2⟩ := C8 ⟨k, h.1⟩
 simp only [] at t1 t2
 unfold d7
 rw [if_neg hx, Hb h, iP (by omega), Int.toNat_natCast, t2]
theorem zP {x : W32} {k : Nat} (h : Low x k) : kv x = some (k : Int) := by
 have hx : ¬ (x == 0#32) = true := fun hh => by
  have h2 := h.2.1
  rw [beq_iff_eq.1 hh] at h2
  simp at h2
 unfold kv
 rw [if_neg hx, bind_some (IY h)]
theorem DY : ∀ (d : Nat) (x : W32) (t : List Int), x.toNat ≤ d → (∀ i, i < t.length → ¬ x.getLsbD i = true) → t.length ≤ 32 → ∃ o, gd t x = some o ∧ o.length ≤ 32 ∧ ∀ y : Int, y ∈ o ↔ y ∈ t ∨ ∃ b : Nat, y = (b : Int) ∧ x.getLsbD b = true
 | d, x, t, hd, hl, ht => by
  by_cases hz : x = 0#32
  ·rw [gd, if_neg (by simpa using hz)]
   exact ⟨t, rfl, ht, fun y => ⟨.inl, fun h => h.elim id fun ⟨b, _, hb⟩ => by rw [hz] at hb; simp at hb⟩⟩
  ·obtain ⟨k, hk⟩ := CT hz
   have hkt : t.length ≤ k := by
    rcases Nat.lt_or_ge k t.length with h | h
    ·exact absurd hk.2.1 (hl k h)
    ·exact h
   have hk32 := hk.1
   have hlt : (x &&& (x - 1#32)).toNat < x.toNat := by
    rcases Nat.lt_or_ge (x &&& (x - 1#32)).toNat x.toNat with h | h
    ·exact h
    ·have hle : (x &&& (x - 1#32)).toNat ≤ x.toNat := by rw [BitVec.toNat_and]; exact Nat.and_le_left
     have e : x &&& (x - 1#32) = x := BitVec.eq_of_toNat_eq (by omega)
     have := (qq hk k).1 (by rw [e]; exact hk.2.1)
     exact absurd rfl this.2
   match d, hd with
   | 0, hd => omega
   | d + 1, hd =>
    rw [gd, if_pos (by simpa using hz), bind_some (zP hk), if_pos (Nat.ble_eq_true_of_le (by simp only [List.length_singleton, az]; omega))]
    obtain ⟨o, o1, o2, o3⟩ := DY d (x &&& (x - 1#32)) (t ++ [(k : Int)]) (by omega) (fun i hi h => by
     rw [List.length_append, List.length_singleton] at hi
     obtain ⟨h1, h2⟩ := (qq hk i).1 h
     exact hk.2.2 i (by omega) h1) (by rw [List.length_append, List.length_singleton]; omega)
    refine ⟨o, o1, o2, fun y => ?_⟩
    rw [o3, List.mem_append, List.mem_singleton]
    constructor
    ·rintro ((h | h) | ⟨b, h1, h2⟩)
     ·exact .inl h
     ·exact .inr ⟨k, h, hk.2.1⟩
     ·exact .inr ⟨b, h1, ((qq hk b).1 h2).1⟩
    ·rintro (h | ⟨b, h1, h2⟩)
     ·exact .inl (.inl h)
     ·by_cases e : b = k
      ·exact .inl (.inr (by rw [h1, e]))
      ·exact .inr ⟨b, h1, (qq hk b).2 ⟨h2, e⟩⟩
theorem Hr (x : W32) : ∃ o, ql x = some o ∧ o.length ≤ 32 ∧ ∀ y : Int, y ∈ o ↔ ∃ b : Nat, y = (b : Int) ∧ x.getLsbD b = true := by
 obtain ⟨o, o1, o2, o3⟩ := DY x.toNat x [] (Nat.le_refl _) (fun i hi => by simp at hi) (by simp)
 unfold ql
 rw [bind_some o1]
 exact ⟨o, rfl, o2, fun y => by rw [o3]; simp⟩
def iy (n : Nat) : W32 := BitVec.setWidth 32 (((1#64) <<< n) - (1#64))
theorem F6 : ∀ n : Fin 33, ∀ i : Fin 32, (iy n.val).getLsbD i.val = decide (i.val < n.val) := by decide +kernel
theorem ib {n : Nat} (hn : n ≤ 32) (b : Nat) : (iy n).getLsbD b = true ↔ b < n := by
 by_cases hb : b < 32
 ·rw [F6 ⟨n, by omega⟩ ⟨b, hb⟩, decide_eq_true_iff]
 ·rw [BitVec.getLsbD_of_ge _ _ (by omega)]
  constructor
  ·intro h; cases h
  ·intro h; omega
theorem tI (n : Nat) (hn : n ≤ 32) : ia (n : Int) = some (iy n) := by
 unfold ia
 have h1 : ¬ (32 : Int) < (n : Int) := by omega
 have h2 : ¬ (0 : Int) > (n : Int) := by omega
 simp only [if_neg h1, if_neg h2]
 rw [iP (by omega), Int.toNat_natCast]
 rfl
inductive Rt (C : List W32) : Nat → Nat → Prop
 | refl (a : Nat) : Rt C a a
 | step (a b c : Nat) : b < C.length → (List.getD C a 0#32).getLsbD b = true → Rt C b c → Rt C a c
theorem IZ {C : List W32} {m : W32} (h : ∀ a, m.getLsbD a = true → ∀ b, b < C.length → (List.getD C a 0#32).getLsbD b = true → m.getLsbD b = true) {a b : Nat} (hr : Rt C a b) : m.getLsbD a = true → m.getLsbD b = true := by
 induction hr with
 | refl a => exact id
 | step a b c h1 h2 _ ih => exact fun ha => ih (h a ha b h1 h2)
theorem F7 {C : List W32} {a b c : Nat} (h : Rt C a b) (h2 : Rt C b c) : Rt C a c := by
 induction h with
 | refl a => exact h2
 | step a b d h1 h3 _ ih => exact .step a b _ h1 h3 (ih h2)
theorem F8 {C : List W32} {a b : Nat} (h : Rt C a b) (ha : a < C.length) : b < C.length := by
 induction h with
 | refl a => exact ha
 | step a b d h1 h3 _ ih => exact ih h1
theorem HZ (C : List W32) (hC : C.length ≤ 32) (t : List Int) (ht : t.length ≤ 32) (hr : ∀ y ∈ t, 0 ≤ y ∧ y < (C.length : Int)) (x2 : W32) : ∀ (m j : Nat) (x3 : W32), j + m = t.length → ∃ y, fl C t x2 x3 (t.length : Int) (j : Int) = some y ∧ ∀ b, y.getLsbD b = true ↔ x3.getLsbD b = true ∨ ∃ i, j ≤ i ∧ i < t.length ∧ b < C.length ∧ (List.getD C (List.getD t i 0).toNat 0#32).getLsbD b = true
 | 0, j, x3, h => by
  rw [fl, iN (by omega)]
  exact ⟨x3, rfl, fun b => ⟨.inl, fun h => h.elim id fun ⟨i, h1, h2, _⟩ => by omega⟩⟩
 | m + 1, j, x3, h => by
  have hj : j < t.length := by omega
  have hm : List.getD t j 0 ∈ t := by
   rw [show List.getD t j 0 = t[j] by simp [List.getD, hj]]
   exact List.getElem_mem _
  have hb := hr _ hm
  obtain ⟨y, y1, y2⟩ := HZ C hC t ht hr x2 m (j + 1) (x3 ||| ((List.getD C (List.getD t j 0).toNat 0#32) &&& iy C.length)) (by omega)
  rw [fl, iP (by omega), iP (by omega), iP (by omega), Int.toNat_natCast, if_pos (decide_eq_true hb.1), if_pos (decide_eq_true hb.2), bind_some (tI _ hC), inc j (by omega)]
  refine ⟨y, y1, fun b => ?_⟩
  rw [y2, BitVec.getLsbD_or, Bool.or_eq_true, BitVec.getLsbD_and, Bool.and_eq_true, ib hC]
  constructor
  ·rintro ((h1 | ⟨h1, h2⟩) | ⟨i, h1, h2, h3⟩)
   ·exact .inl h1
   ·exact .inr ⟨j, Nat.le_refl _, hj, h2, h1⟩
   ·exact .inr ⟨i, by omega, h2, h3⟩
  ·rintro (h1 | ⟨i, h1, h2, h3, h4⟩)
   ·exact .inl (.inl h1)
   ·rcases Nat.eq_or_lt_of_le h1 with rfl | h5
    ·exact .inl (.inr ⟨h4, h3⟩)
    ·exact .inr ⟨i, h5, h2, h3, h4⟩
theorem BW (C : List W32) (hC : C.length ≤ 32) : ∀ (d : Nat) (m : W32), 2 ^ 32 - m.toNat ≤ d → (∀ b, m.getLsbD b = true → b < C.length) → ∃ R, f6 C m = some R ∧ ∀ b, R.getLsbD b = true ↔ ∃ a, m.getLsbD a = true ∧ Rt C a b
 | 0, m, hd, hm => by have := m.isLt; omega
 | d + 1, m, hd, hm => by
  obtain ⟨t, t1, t2, t3⟩ := Hr m
  obtain ⟨y, y1, y2⟩ := HZ C hC t t2 (fun y hy => by
   obtain ⟨b, e, hb⟩ := (t3 y).1 hy
   have := hm b hb
   omega) m t.length 0 m (Nat.zero_add _)
  rw [show ((0 : Nat) : Int) = 0 from rfl] at y1
  have y3 : ∀ b, y.getLsbD b = true ↔ m.getLsbD b = true ∨ ∃ a, m.getLsbD a = true ∧ b < C.length ∧ (List.getD C a 0#32).getLsbD b = true := fun b => by
   rw [y2]
   constructor
   ·rintro (h | ⟨i, _, h1, h2, h3⟩)
    ·exact .inl h
    ·have hmem : List.getD t i 0 ∈ t := by
      rw [show List.getD t i 0 = t[i] by simp [List.getD, h1]]
      exact List.getElem_mem _
     obtain ⟨a, e, ha⟩ := (t3 _).1 hmem
     rw [e, Int.toNat_natCast] at h3
     exact .inr ⟨a, ha, h2, h3⟩
   ·rintro (h | ⟨a, h1, h2, h3⟩)
    ·exact .inl h
    ·obtain ⟨i, hi, e⟩ := List.mem_iff_getElem.1 ((t3 (a : Int)).2 ⟨a, rfl, h1⟩)
     refine .inr ⟨i, Nat.zero_le _, hi, h2, ?_⟩
     rw [show List.getD t i 0 = (a : Int) by simp [List.getD, hi, e], Int.toNat_natCast]
     exact h3
  rw [f6, bind_some t1, bind_some y1]
  by_cases he : y = m
  ·rw [if_pos (beq_iff_eq.2 he)]
   refine ⟨m, rfl, fun b => ⟨fun h => ⟨b, h, .refl b⟩, fun ⟨a, ha, hr⟩ => IZ (fun a ha b hb hc => ?_) hr ha⟩⟩
   rw [← he]
   exact (y3 b).2 (.inr ⟨a, ha, hb, hc⟩)
  ·rw [if_neg (fun h => he (beq_iff_eq.1 h))]
   have hle : m.toNat ≤ y.toNat := by
    have e : y = m ||| y := BitVec.eq_of_getLsbD_eq fun i hi => by
     rw [BitVec.getLsbD_or]
     cases hmi : m.getLsbD i with
     | false => simp
     | true => rw [(y3 i).2 (.inl hmi)]; rfl
    rw [e, BitVec.toNat_or]
    exact Nat.left_le_or
   have hlt : m.toNat < y.toNat := by
    rcases Nat.lt_or_ge m.toNat y.toNat with h | h
    ·exact h
    ·exact absurd (BitVec.eq_of_toNat_eq (by omega)) he
   have hy := y.isLt
   obtain ⟨R, r1, r2⟩ := BW C hC d y (by omega) fun b hb => by
    rcases (y3 b).1 hb with h | ⟨_, _, h, _⟩
    ·exact hm b h
    ·exact h
   refine ⟨R, r1, fun b => ?_⟩
   rw [r2]
   constructor
   ·rintro ⟨a, ha, hr⟩
    rcases (y3 a).1 ha with h | ⟨a0, h0, h1, h2⟩
    ·exact ⟨a, h, hr⟩
    ·exact ⟨a0, h0, .step _ _ _ h1 h2 hr⟩
   ·rintro ⟨a, ha, hr⟩
    exact ⟨a, (y3 a).2 (.inl ha), hr⟩
theorem zQ (p : ae) {C : List W32} (hc : gm p = some C) (hC : C.length ≤ 32) (from_ : W32) : ∃ R, jB p from_ = some R ∧ ∀ b, R.getLsbD b = true ↔ ∃ a, a < C.length ∧ from_.getLsbD a = true ∧ Rt C a b := by
 obtain ⟨R, r1, r2⟩ := BW C hC (2 ^ 32) (from_ &&& iy C.length) (by omega) fun b hb => by
  rw [BitVec.getLsbD_and, Bool.and_eq_true, ib hC] at hb
  exact hb.2
 unfold jB
 rw [bind_some hc, bind_some (tI _ hC), bind_some r1]
 refine ⟨R, rfl, fun b => ?_⟩
 rw [r2]
 constructor
 ·rintro ⟨a, ha, hr⟩
  rw [BitVec.getLsbD_and, Bool.and_eq_true, ib hC] at ha
  exact ⟨a, ha.2, ha.1, hr⟩
 ·rintro ⟨a, h1, h2, hr⟩
  refine ⟨a, ?_, hr⟩
  rw [BitVec.getLsbD_and, Bool.and_eq_true, ib hC]
  exact ⟨h2, h1⟩
theorem tJ {x y : W32} (h : ∀ b, x.getLsbD b = true ↔ y.getLsbD b = true) : x = y := BitVec.eq_of_getLsbD_eq fun i _ => Bool.eq_iff_iff.2 (h i)
def EG (p : ae) (x y : Nat) : Prop := y < p.funcs.length ∧ Edge p.funcs x y
theorem nJ (calls : List Int) (hcl : calls.length ≤ 65536) (n f : Nat) (hf : f < n) (hcr : ∀ x ∈ calls, 0 ≤ x) (x2 x3 x4 : Int) (x5 : FS) (x7 : Int) : ∀ (m i : Nat) (s : List Bool), i + m = calls.length → s.length = n → ∃ s', aU s calls x2 x3 x4 x5 (n : Int) x7 (f : Int) (i : Int) = some s' ∧ s'.length = n ∧ ∀ y, Sn s' y ↔ Sn s y ∨ (Sn s f ∧ y < n ∧ (y : Int) ∈ calls.drop i)
 | 0, i, s, h, hs => by
  rw [aU, iN (by omega), List.drop_eq_nil_of_le (by omega)]
  exact ⟨s, rfl, hs, fun y => by simp⟩
 | m + 1, i, s, h, hs => by
  have hlt : i < calls.length := by omega
  have hd : calls.drop i = calls[i] :: calls.drop (i + 1) := List.drop_eq_getElem_cons hlt
  have hg : List.getD calls i 0 = calls[i] := by simp [List.getD, hlt]
  have h0 := hcr _ (List.getElem_mem hlt)
  rw [aU, iP (by omega), iP (by omega), iP (by omega), inc i (by omega)]
  rw [Int.toNat_natCast f, Int.toNat_natCast i]
  by_cases hsf : Sn s f
  ·rw [if_pos (show List.getD s f false = true from hsf), iP (by omega), iP (by omega), hg, hd]
   obtain ⟨x, hx⟩ : ∃ x : Nat, calls[i] = (x : Int) := ⟨calls[i].toNat, by omega⟩
   rw [hx] at h0 ⊢
   by_cases hxn : x < n
   ·rw [iP (by omega), iP (by omega), iP (by omega), Int.toNat_natCast]
    obtain ⟨s', q1, q2, q3⟩ := nJ calls hcl n f hf hcr x2 x3 x4 x5 x7 m (i + 1) (s.set x true) (by omega) (by simpa using hs)
    refine ⟨s', q1, q2, fun y => ?_⟩
    rw [q3, cT (by omega), cT (by omega), List.mem_cons]
    constructor
    ·rintro ((rfl | h1) | ⟨_, h2, h3⟩)
     ·exact .inr ⟨hsf, hxn, .inl rfl⟩
     ·exact .inl h1
     ·exact .inr ⟨hsf, h2, .inr h3⟩
    ·rintro (h1 | ⟨h1, h2, h3 | h3⟩)
     ·exact .inl (.inr h1)
     ·exact .inl (.inl (by omega))
     ·exact .inr ⟨.inr h1, h2, h3⟩
   ·rw [iN (by omega)]
    obtain ⟨s', q1, q2, q3⟩ := nJ calls hcl n f hf hcr x2 x3 x4 x5 x7 m (i + 1) s (by omega) hs
    refine ⟨s', q1, q2, fun y => ?_⟩
    rw [q3, List.mem_cons]
    constructor
    ·rintro (h1 | ⟨h1, h2, h3⟩)
     ·exact .inl h1
     ·exact .inr ⟨h1, h2, .inr h3⟩
    ·rintro (h1 | ⟨h1, h2, h3 | h3⟩)
     ·exact .inl h1
     ·omega
     ·exact .inr ⟨h1, h2, h3⟩
  ·rw [if_neg (show ¬ List.getD s f false = true from hsf)]
   obtain ⟨s', q1, q2, q3⟩ := nJ calls hcl n f hf hcr x2 x3 x4 x5 x7 m (i + 1) s (by omega) hs
   refine ⟨s', q1, q2, fun y => ?_⟩
   rw [q3]
   simp [hsf]
theorem ya (p : ae) (hn : p.funcs.length ≤ 32) (hle : ∀ f, (List.getD p.funcs f []).length ≤ 65536) (x6 : Int) : ∀ (m f : Nat) (s : List Bool), f + m = p.funcs.length → s.length = p.funcs.length → ∃ s', bb s p.globals p.locks p.slots p.funcs (p.funcs.length : Int) x6 (f : Int) = some s' ∧ s'.length = p.funcs.length ∧ (∀ y, Sn s y → Sn s' y) ∧ (∀ Q : Nat → Prop, (∀ x y, Q x → EG p x y → Q y) → (∀ y, Sn s y → Q y) → ∀ y, Sn s' y → Q y) ∧ ∀ x y, f ≤ x → Sn s x → EG p x y → Sn s' y
 | 0, f, s, h, hs => by
  rw [bb, iN (by omega)]
  exact ⟨s, rfl, hs, fun y h => h, fun Q _ h => h, fun x y hx hsx _ => by have := hsx.lt; omega⟩
 | m + 1, f, s, h, hs => by
  obtain ⟨t, q1, q2, q3⟩ := pg (List.getD p.funcs f []) (hle f) 7
  have hmem : ∀ b : Nat, (b < p.funcs.length ∧ (b : Int) ∈ t) ↔ EG p f b := fun b => ⟨fun h => ⟨h.1, ((q3 b).1 h.2).2⟩, fun h => ⟨h.1, (q3 b).2 ⟨by have := h.1; omega, h.2⟩⟩⟩
  have htn := q2.nat
  have htl := q2.length_le (by omega)
  obtain ⟨s1, g1, g2, g3⟩ := nJ t (by omega) p.funcs.length f (by omega) (fun x hx => by have := htn x hx; omega) p.globals p.locks p.slots p.funcs x6 t.length 0 s (by omega) hs
  rw [show ((0 : Nat) : Int) = 0 from rfl] at g1
  rw [bb, iP (by omega), iP (by omega), iP (by omega), Int.toNat_natCast, bind_some q1, bind_some g1, inc f (by omega)]
  obtain ⟨s', k1, k2, k3, k4, k5⟩ := ya p hn hle x6 m (f + 1) s1 (by omega) g2
  refine ⟨s', k1, k2, fun y hy => k3 y ((g3 y).2 (.inl hy)), fun Q hQ hsQ => k4 Q hQ fun y hy => ?_, fun x y hx hsx e => ?_⟩
  ·rcases (g3 y).1 hy with h1 | ⟨h1, h3, h2⟩
   ·exact hsQ y h1
   ·rw [List.drop_zero] at h2
    exact hQ f y (hsQ f h1) ((hmem y).1 ⟨h3, h2⟩)
  ·rcases Nat.eq_or_lt_of_le hx with rfl | hx
   ·exact k3 y ((g3 y).2 (.inr ⟨hsx, e.1, by rw [List.drop_zero]; exact ((hmem y).2 e).2⟩))
   ·exact k5 x y hx ((g3 x).2 (.inl hsx)) e
def AL (p : ae) (s : List Bool) : Prop := ∀ x, Sn s x → ∀ y, EG p x y → Sn s y
theorem zR (p : ae) (hn : p.funcs.length ≤ 32) (hle : ∀ f, (List.getD p.funcs f []).length ≤ 65536) : ∀ (m r : Nat) (s : List Bool), r + m = p.funcs.length → s.length = p.funcs.length → ∃ s', bp s p.globals p.locks p.slots p.funcs (p.funcs.length : Int) (r : Int) = some s' ∧ s'.length = p.funcs.length ∧ (∀ y, Sn s y → Sn s' y) ∧ (∀ Q : Nat → Prop, (∀ x y, Q x → EG p x y → Q y) → (∀ y, Sn s y → Q y) → ∀ y, Sn s' y → Q y) ∧ (AL p s' ∨ s'.count false + m ≤ s.count false)
 | 0, r, s, h, hs => by
  rw [bp, iN (by omega)]
  exact ⟨s, rfl, hs, fun y h => h, fun Q _ h => h, .inr (by omega)⟩
 | m + 1, r, s, h, hs => by
  obtain ⟨s1, g1, g2, g3, g4, g5⟩ := ya p hn hle (r : Int) p.funcs.length 0 s (by omega) hs
  rw [show ((0 : Nat) : Int) = 0 from rfl] at g1
  rw [bp, iP (by omega), bind_some g1, inc r (by omega)]
  obtain ⟨s', k1, k2, k3, k4, k5⟩ := zR p hn hle m (r + 1) s1 (by omega) g2
  refine ⟨s', k1, k2, fun y hy => k3 y (g3 y hy), fun Q hQ hsQ => k4 Q hQ (g4 Q hQ hsQ), ?_⟩
  by_cases hcl : AL p s
  ·left
   have e1 : ∀ y, Sn s1 y → Sn s y := g4 (Sn s) (fun x y hx e => hcl x hx y e) fun y h => h
   have e2 : ∀ y, Sn s' y → Sn s y := fun y hy => e1 y (by
    have := k4 (Sn s1) (fun x y hx e => g3 y (hcl x (e1 x hx) y e)) (fun y h => h) y hy
    exact this)
   exact fun x hx y e => k3 y (g3 y (hcl x (e2 x hx) y e))
  ·rcases k5 with k5 | k5
   ·exact .inl k5
   ·right
    have : ∃ x y, Sn s x ∧ EG p x y ∧ ¬ Sn s y := by
     apply Classical.byContradiction
     intro hno
     exact hcl fun x hx y e => Classical.byContradiction fun h => hno ⟨x, y, hx, e, h⟩
    obtain ⟨x, y, h1, h2, h3⟩ := this
    have := mg (by omega) g3 h3 (g5 x y (Nat.zero_le _) h1 h2)
    omega
theorem DZ (p : ae) (hn : p.funcs.length ≤ 32) (hle : ∀ f, (List.getD p.funcs f []).length ≤ 65536) {C : List W32} (hc : C.length = p.funcs.length) (hcb : ∀ x b, x < p.funcs.length → ((List.getD C x 0#32).getLsbD b = true ↔ b < 32 ∧ Edge p.funcs x b)) (fr : List Int) (hfl : fr.length ≤ 65536) (hfr : ∀ x ∈ fr, 0 ≤ x) : ∃ t, dF p fr = some t ∧ gj 0 t ∧ ∀ b : Nat, (b : Int) ∈ t ↔ ∃ a : Nat, a < p.funcs.length ∧ (a : Int) ∈ fr ∧ Rt C a b := by
 unfold dF
 rw [iP (by omega), if_pos (decide_eq_true (by simp only [az]; omega)), Int.toNat_natCast]
 obtain ⟨s0, q1, q2, q3⟩ := sQ p fr hfl hfr fr.length 0 (List.replicate p.funcs.length false) (Nat.zero_add _) (by simp)
 rw [show ((0 : Nat) : Int) = 0 from rfl] at q1
 have h0 : ∀ y, Sn s0 y ↔ y < p.funcs.length ∧ (y : Int) ∈ fr := fun y => by
  rw [q3, List.drop_zero]
  constructor
  ·rintro (h1 | h2)
   ·exact absurd h1 (ca _ _)
   ·exact h2
  ·exact .inr
 obtain ⟨s, g1, g2, g3, g4, g5⟩ := zR p hn hle p.funcs.length 0 s0 (by omega) q2
 rw [show ((0 : Nat) : Int) = 0 from rfl] at g1
 obtain ⟨t, k1, k2, k3⟩ := qh s p.funcs.length (by omega) g2 p.funcs.length 0 [] (by omega) (by simp)
 rw [show ((0 : Nat) : Int) = 0 from rfl, List.nil_append] at k1
 rw [bind_some q1, bind_some g1, bind_some k1]
 have hcl : AL p s := by
  rcases g5 with h | h
  ·exact h
  ·by_cases he : ∃ f, Sn s0 f
   ·exfalso
    obtain ⟨f, hf⟩ := he
    have h1 := mg (s := List.replicate p.funcs.length false) (s' := s0) (by simp [q2]) (fun y hy => absurd hy (ca _ _)) (ca _ f) hf
    have h2 := List.count_le_length (a := false) (l := List.replicate p.funcs.length false)
    rw [List.length_replicate] at h2
    omega
   ·intro x hx
    exact absurd ⟨x, g4 (Sn s0) (fun x y hx _ => absurd ⟨x, hx⟩ he) (fun y h => h) x hx⟩ he
 refine ⟨t, rfl, k2, fun b => ?_⟩
 rw [k3]
 constructor
 ·rintro ⟨_, h1⟩
  refine g4 (fun y => ∃ a : Nat, a < p.funcs.length ∧ (a : Int) ∈ fr ∧ Rt C a y) (fun x y hx e => ?_) (fun y hy => ?_) b h1
  ·obtain ⟨a, a1, a2, a3⟩ := hx
   have hxl := F8 a3 (by omega)
   exact ⟨a, a1, a2, F7 a3 (.step x y y (by rw [hc]; exact e.1) ((hcb x y (by omega)).2 ⟨by have := e.1; omega, e.2⟩) (.refl y))⟩
  ·obtain ⟨h2, h3⟩ := (h0 y).1 hy
   exact ⟨y, h2, h3, .refl y⟩
 ·rintro ⟨a, a1, a2, hr⟩
  refine ⟨Nat.zero_le _, ?_⟩
  have key : ∀ {a b : Nat}, Rt C a b → a < p.funcs.length → Sn s a → Sn s b := fun {a b} hr => by
   induction hr with
   | refl a => exact fun _ h => h
   | step a b c h1 h2 _ ih => exact fun hal ha => ih (by omega) (hcl a ha b ⟨by omega, ((hcb a b hal).1 h2).2⟩)
  exact key hr a1 (g3 a ((h0 a).2 ⟨a1, a2⟩))
def tbh (x : ab) (t : W32) : W32 := if x.kind = 3 then t ||| one x.arg else if x.kind = 4 then t &&& ~~~(one x.arg) else t
def nT (locks : List W32) (x : ab) (t : W32) : Bool := if x.kind = 3 then (t &&& one x.arg) == 0#32 else if x.kind = 4 then (t &&& one x.arg) != 0#32 else if x.kind = 9 then t == 0#32 else if x.kind = 7 then (if 0 ≤ x.arg ∧ x.arg < locks.length then (t &&& List.getD locks x.arg.toNat 0#32) == 0#32 else false) else true
theorem F9 (x : ab) (t : W32) (locks : List W32) : jy x t locks = some (tbh x t, nT locks x t) := by
 unfold jy tbh nT
 rw [bind_some (nv _)]
 by_cases h3 : x.kind = 3
 ·rw [if_pos (eqT h3), if_pos h3, if_pos h3]
 ·rw [if_neg (eqF h3), if_neg h3, if_neg h3]
  by_cases h4 : x.kind = 4
  ·rw [if_pos (eqT h4), if_pos h4, if_pos h4]
  ·rw [if_neg (eqF h4), if_neg h4, if_neg h4]
   by_cases h9 : x.kind = 9
   ·rw [if_pos (eqT h9), if_pos h9]
   ·rw [if_neg (eqF h9), if_neg h9]
    by_cases h7 : x.kind = 7
    ·rw [if_pos (eqT h7), if_pos h7]
     by_cases ha : x.arg ≥ 0
     ·by_cases hb : x.arg < (locks.length : Int)
      ·rw [if_pos (decide_eq_true ha), if_pos (decide_eq_true hb), if_pos (decide_eq_true ha), if_pos (decide_eq_true hb), if_pos ⟨ha, hb⟩]
      ·rw [if_pos (decide_eq_true ha), if_neg (by simpa using hb), if_neg (fun h => hb h.2)]
     ·rw [if_neg (by simpa using ha), if_neg (fun h => ha h.1)]
    ·rw [if_neg (eqF h7), if_neg h7]
inductive Go1 (l : List ab) : Nat → Prop
 | start : Go1 l 0
 | on (i y : Nat) : Go1 l i → i < l.length → (y : Int) ∈ succ (List.getD l i aa) → Go1 l y
structure Lab (l : List ab) (locks : List W32) (T : Nat → W32) : Prop where
 zero : T 0 = 0#32
 all : ∀ i, i < l.length → Go1 l i
 fine : ∀ i, i < l.length → nT locks (List.getD l i aa) (T i) = true
 on : ∀ i y : Nat, i < l.length → (y : Int) ∈ succ (List.getD l i aa) → T y = tbh (List.getD l i aa) (T i)
theorem BX {α : Type} (s : List α) (i j : Nat) (x d : α) (h : i < s.length) : List.getD (s.set i x) j d = if j = i then x else List.getD s j d := by
 by_cases e : j = i
 ·subst e; simp [List.getD, h]
 ·have : i ≠ j := fun e' => e e'.symm
  rw [if_neg e]
  simp [List.getD, List.getElem?_set, this]
theorem gdE {α : Type} (s : List α) (i : Nat) (d : α) (h : i < s.length) : List.getD s i d = s[i] := by simp [List.getD, h]
structure zb (l : List ab) (locks : List W32) (out : List W32) (met : List Bool) (todo : List Int) (ok : Bool) : Prop where
 ol : out.length = l.length
 ml : met.length = l.length
 td : ∀ y ∈ todo, ∃ b : Nat, y = (b : Int) ∧ b < l.length ∧ Sn met b
 z : Sn met 0
 oz : List.getD out 0 0#32 = 0#32
 go : ∀ i, Sn met i → Go1 l i
 lab : ∀ T, Lab l locks T → ok = true ∧ ∀ i, Sn met i → List.getD out i 0#32 = T i
structure Don (l : List ab) (locks : List W32) (out : List W32) (met : List Bool) (ok : Bool) (i : Nat) : Prop where
 s : ∀ y : Nat, (y : Int) ∈ succ (List.getD l i aa) → Sn met y
 f : ok = true → nT locks (List.getD l i aa) (List.getD out i 0#32) = true ∧ ∀ y : Nat, (y : Int) ∈ succ (List.getD l i aa) → List.getD out y 0#32 = tbh (List.getD l i aa) (List.getD out i 0#32)
structure Gro (out : List W32) (met : List Bool) (ok : Bool) (out' : List W32) (met' : List Bool) (ok' : Bool) : Prop where
 m : ∀ y, Sn met y → Sn met' y
 o : ∀ y, Sn met y → List.getD out' y 0#32 = List.getD out y 0#32
 k : ok' = true → ok = true
theorem Gro.refl (out : List W32) (met : List Bool) (ok : Bool) : Gro out met ok out met ok := ⟨fun _ h => h, fun _ _ => rfl, id⟩
theorem Gro.trans {o1 o2 o3 : List W32} {m1 m2 m3 : List Bool} {k1 k2 k3 : Bool} (h : Gro o1 m1 k1 o2 m2 k2) (h2 : Gro o2 m2 k2 o3 m3 k3) : Gro o1 m1 k1 o3 m3 k3 := ⟨fun y hy => h2.m y (h.m y hy), fun y hy => (h2.o y (h.m y hy)).trans (h.o y hy), fun hk => h.k (h2.k hk)⟩
theorem yb (l : List ab) (locks : List W32) (i : Nat) (hi : i < l.length) (hll : l.length ≤ 65536) (hj : ∀ y ∈ succ (List.getD l i aa), 0 ≤ y ∧ y < (l.length : Int)) : ∀ (m k : Nat) (out : List W32) (met : List Bool) (todo : List Int) (ok : Bool), k + m = (succ (List.getD l i aa)).length → zb l locks out met todo ok → Sn met i → todo.length + met.count false ≤ 1000000 → (∀ T, Lab l locks T → tbh (List.getD l i aa) (List.getD out i 0#32) = tbh (List.getD l i aa) (T i)) →
  ∃ out' met' todo' ok', aR out met todo (succ (List.getD l i aa)) l locks ok (tbh (List.getD l i aa) (List.getD out i 0#32)) ((succ (List.getD l i aa)).length : Int) (k : Int) = some (.x1 out' met' todo' ok') ∧ zb l locks out' met' todo' ok' ∧ Gro out met ok out' met' ok' ∧ todo'.length + met'.count false = todo.length + met.count false ∧ met'.count false ≤ met.count false ∧ (∀ y ∈ todo, y ∈ todo') ∧ (∀ b : Nat, Sn met' b → Sn met b ∨ (b : Int) ∈ todo') ∧ ∀ j, k ≤ j → ∀ (h : j < (succ (List.getD l i aa)).length), ∃ b : Nat, (succ (List.getD l i aa))[j] = (b : Int) ∧ Sn met' b ∧ (ok' = true → List.getD out' b 0#32 = tbh (List.getD l i aa) (List.getD out i 0#32))
 | 0, k, out, met, todo, ok, h, hs, hmi, hlen, hT => by
  rw [aR, iN (by omega)]
  exact ⟨out, met, todo, ok, rfl, hs, .refl _ _ _, rfl, Nat.le_refl _, fun y hy => hy, fun b hb => .inl hb, fun j h1 h2 => by omega⟩
 | m + 1, k, out, met, todo, ok, h, hs, hmi, hlen, hT => by
  have hlt : k < (succ (List.getD l i aa)).length := by omega
  have hg : List.getD (succ (List.getD l i aa)) k 0 = (succ (List.getD l i aa))[k] := gdE _ _ _ hlt
  have hmem := List.getElem_mem hlt
  have hr := hj _ hmem
  obtain ⟨b, hb⟩ : ∃ b : Nat, (succ (List.getD l i aa))[k] = (b : Int) := ⟨((succ (List.getD l i aa))[k]).toNat, by omega⟩
  have hbm : (b : Int) ∈ succ (List.getD l i aa) := by rw [← hb]; exact hmem
  have hol := hs.ol
  have hml := hs.ml
  have hgi := hs.go i hmi
  have sl := mf (List.getD l i aa)
  rw [aR, iP (by omega), iP (by omega), iP (by omega), Int.toNat_natCast k, hg, hb]
  rw [hb] at hr
  rw [iN (by omega), iN (by omega), iP (by omega), iP (by omega), Int.toNat_natCast b, inc k (by omega)]
  by_cases hm : Sn met b
  ·have hm' : List.getD met b false = true := hm
   rw [hm', if_neg (by decide)]
   have fin : ∀ ok2 : Bool, (ok2 = true → ok = true ∧ List.getD out b 0#32 = tbh (List.getD l i aa) (List.getD out i 0#32)) → (∀ T, Lab l locks T → ok2 = true) → ∃ out' met' todo' ok', aR out met todo (succ (List.getD l i aa)) l locks ok2 (tbh (List.getD l i aa) (List.getD out i 0#32)) ((succ (List.getD l i aa)).length : Int) ((k + 1 : Nat) : Int) = some (.x1 out' met' todo' ok') ∧ zb l locks out' met' todo' ok' ∧ Gro out met ok out' met' ok' ∧ todo'.length + met'.count false = todo.length + met.count false ∧ met'.count false ≤ met.count false ∧ (∀ y ∈ todo, y ∈ todo') ∧ (∀ b : Nat, Sn met' b → Sn met b ∨ (b : Int) ∈ todo') ∧ ∀ j, k ≤ j → ∀ (h : j < (succ (List.getD l i aa)).length), ∃ b : Nat, (succ (List.getD l i aa))[j] = (b : Int) ∧ Sn met' b ∧ (ok' = true → List.getD out' b 0#32 = tbh (List.getD l i aa) (List.getD out i 0#32)) := fun ok2 h1 h2 => by
    obtain ⟨out', met', todo', ok', q1, q2, q3, q4, q5, q6, q7, q8⟩ := yb l locks i hi hll hj m (k + 1) out met todo ok2 (by omega) ⟨hs.ol, hs.ml, hs.td, hs.z, hs.oz, hs.go, fun T hL => ⟨h2 T hL, (hs.lab T hL).2⟩⟩ hmi hlen hT
    refine ⟨out', met', todo', ok', q1, q2, ⟨q3.m, q3.o, fun hk => (h1 (q3.k hk)).1⟩, q4, q5, q6, q7, fun j h3 h4 => ?_⟩
    rcases Nat.eq_or_lt_of_le h3 with rfl | h5
    ·exact ⟨b, hb, q3.m b hm, fun hk => (q3.o b hm).trans (h1 (q3.k hk)).2⟩
    ·exact q8 j h5 h4
   have hLb : ∀ T, Lab l locks T → (List.getD out b 0#32 == tbh (List.getD l i aa) (List.getD out i 0#32)) = true := fun T hL => by
    rw [beq_iff_eq, (hs.lab T hL).2 b hm, hT T hL]
    exact hL.on i b hi hbm
   by_cases hk : ok = true
   ·rw [if_pos hk, iP (by omega)]
    exact fin _ (fun h => ⟨hk, beq_iff_eq.1 h⟩) hLb
   ·rw [if_neg hk]
    exact fin false (fun h => by cases h) (fun T hL => absurd (hs.lab T hL).1 hk)
  ·have hm' : List.getD met b false = false := by
    rw [← Bool.not_eq_true]; exact hm
   have hbl : b < met.length := by omega
   have hbo : b < out.length := by omega
   have hib : i ≠ b := fun e => hm (by rw [← e]; exact hmi)
   have hb0 : b ≠ 0 := fun e => hm (by rw [e]; exact hs.z)
   have hcnt : (met.set b true).count false + 1 = met.count false := by
    have := List.count_set (l := met) (i := b) (a := true) (b := false) hbl
    have e : met[b] = false := by
     rw [← hm']; simp [List.getD, hbl]
    have hpos : 0 < met.count false := List.count_pos_iff.2 (by rw [← e]; exact List.getElem_mem hbl)
    rw [this, e]
    simp
    omega
   rw [hm', if_pos (by decide), iP (by omega), if_pos (Nat.ble_eq_true_of_le (by simp only [List.length_singleton, az]; omega))]
   have eout : List.getD (out.set b (tbh (List.getD l i aa) (List.getD out i 0#32))) b 0#32 = tbh (List.getD l i aa) (List.getD out i 0#32) := by rw [BX _ _ _ _ _ hbo, if_pos rfl]
   have ei : List.getD (out.set b (tbh (List.getD l i aa) (List.getD out i 0#32))) i 0#32 = List.getD out i 0#32 := by rw [BX _ _ _ _ _ hbo, if_neg hib]
   have G : Gro out met ok (out.set b (tbh (List.getD l i aa) (List.getD out i 0#32))) (met.set b true) ok := ⟨fun y hy => (cT hbl).2 (.inr hy), fun y hy => by rw [BX _ _ _ _ _ hbo, if_neg (fun e => hm (by rw [← e]; exact hy))], id⟩
   have S : zb l locks (out.set b (tbh (List.getD l i aa) (List.getD out i 0#32))) (met.set b true) (todo ++ [(b : Int)]) ok := by
    refine ⟨by rw [List.length_set]; exact hol, by rw [List.length_set]; exact hml, fun y hy => ?_, (cT hbl).2 (.inr hs.z), by rw [G.o 0 hs.z]; exact hs.oz, fun y hy => ?_, fun T hL => ⟨(hs.lab T hL).1, fun y hy => ?_⟩⟩
    ·rcases List.mem_append.1 hy with h1 | h1
     ·obtain ⟨c, c1, c2, c3⟩ := hs.td y h1
      exact ⟨c, c1, c2, G.m c c3⟩
     ·exact ⟨b, List.mem_singleton.1 h1, by omega, (cT hbl).2 (.inl rfl)⟩
    ·rcases (cT hbl).1 hy with h1 | h1
     ·rw [h1]; exact .on i b hgi hi hbm
     ·exact hs.go y h1
    ·rcases (cT hbl).1 hy with h1 | h1
     ·rw [h1, eout, hT T hL]
      exact (hL.on i b hi hbm).symm
     ·rw [G.o y h1]
      exact (hs.lab T hL).2 y h1
   have go : ∃ out' met' todo' ok', aR (out.set b (tbh (List.getD l i aa) (List.getD out i 0#32))) (met.set b true) (todo ++ [(b : Int)]) (succ (List.getD l i aa)) l locks ok (tbh (List.getD l i aa) (List.getD out i 0#32)) ((succ (List.getD l i aa)).length : Int) ((k + 1 : Nat) : Int) = some (.x1 out' met' todo' ok') ∧ zb l locks out' met' todo' ok' ∧ Gro out met ok out' met' ok' ∧ todo'.length + met'.count false = todo.length + met.count false ∧ met'.count false ≤ met.count false ∧ (∀ y ∈ todo, y ∈ todo') ∧ (∀ b : Nat, Sn met' b → Sn met b ∨ (b : Int) ∈ todo') ∧ ∀ j, k ≤ j → ∀ (h : j < (succ (List.getD l i aa)).length), ∃ b : Nat, (succ (List.getD l i aa))[j] = (b : Int) ∧ Sn met' b ∧ (ok' = true → List.getD out' b 0#32 = tbh (List.getD l i aa) (List.getD out i 0#32)) := by
    have q := yb l locks i hi hll hj m (k + 1) _ _ _ ok (by omega) S ((cT hbl).2 (.inr hmi)) (by rw [List.length_append, List.length_singleton]; omega) (by rw [ei]; exact hT)
    rw [ei] at q
    obtain ⟨out', met', todo', ok', q1, q2, q3, q4, q5, q6, q7, q8⟩ := q
    refine ⟨out', met', todo', ok', q1, q2, G.trans q3, by rw [q4, List.length_append, List.length_singleton]; omega, by omega, fun y hy => q6 y (List.mem_append_left _ hy), fun c hc => ?_, fun j h3 h4 => ?_⟩
    ·rcases q7 c hc with h1 | h1
     ·rcases (cT hbl).1 h1 with h2 | h2
      ·exact .inr (q6 _ (List.mem_append_right _ (by rw [h2]; simp)))
      ·exact .inl h2
     ·exact .inr h1
    ·rcases Nat.eq_or_lt_of_le h3 with rfl | h5
     ·exact ⟨b, hb, q3.m b ((cT hbl).2 (.inl rfl)), fun _ => (q3.o b ((cT hbl).2 (.inl rfl))).trans eout⟩
     ·exact q8 j h5 h4
   by_cases hk : ok = true
   ·rw [if_pos hk, eout, show ((tbh (List.getD l i aa) (List.getD out i 0#32)) == (tbh (List.getD l i aa) (List.getD out i 0#32))) = ok by rw [hk]; simp]
    exact go
   ·rw [if_neg hk]
    rw [Bool.not_eq_true] at hk
    rw [hk] at go
    rw [hk]
    exact go
theorem Don.mono {l : List ab} {locks : List W32} {out out' : List W32} {met met' : List Bool} {ok ok' : Bool} {i : Nat} (h : Don l locks out met ok i) (G : Gro out met ok out' met' ok') (hi : Sn met i) : Don l locks out' met' ok' i := ⟨fun y hy => G.m y (h.s y hy), fun hk => by
 obtain ⟨h1, h2⟩ := h.f (G.k hk)
 rw [G.o i hi]
 exact ⟨h1, fun y hy => (G.o y (h.s y hy)).trans (h2 y hy)⟩⟩
theorem D0 (l : List ab) (locks : List W32) (hll : l.length ≤ 65536) (hsr : ∀ i, i < l.length → ∀ y ∈ succ (List.getD l i aa), 0 ≤ y ∧ y < (l.length : Int)) : ∀ (d : Nat) (out : List W32) (met : List Bool) (todo : List Int) (ok : Bool), 2 * met.count false + todo.length ≤ d → todo.length + met.count false ≤ 1000000 → zb l locks out met todo ok → (∀ i : Nat, Sn met i → (i : Int) ∉ todo → Don l locks out met ok i) → ∃ out' met' ok', bO out met todo l locks ok = some (.x1 out' met' ok') ∧ zb l locks out' met' [] ok' ∧ ∀ i, Sn met' i → Don l locks out' met' ok' i
 | d, out, met, todo, ok, hd, hbig, hs, hdon => by
  rcases Nat.eq_zero_or_pos todo.length with h0 | hpos
  ·have : todo = [] := List.eq_nil_of_length_eq_zero h0
   subst this
   rw [bO, if_neg (by decide)]
   exact ⟨out, met, ok, rfl, hs, fun i hi => hdon i hi (fun h => by cases h)⟩
  ·match d, hd with
   | 0, hd => omega
   | d + 1, hd =>
    have e1 : aF ((todo.length : Nat) : Int) 1 = ((todo.length - 1 : Nat) : Int) := by rw [io (by omega) (by omega)]; omega
    have hlast : todo.length - 1 < todo.length := by omega
    obtain ⟨i, hi1, hi2, hi3⟩ := hs.td _ (List.getElem_mem hlast)
    have hg : List.getD todo (todo.length - 1) 0 = (i : Int) := by rw [gdE _ _ _ hlast]; exact hi1
    have hol := hs.ol
    have mem_or : ∀ y ∈ todo, y ∈ todo.take (todo.length - 1) ∨ y = (i : Int) := fun y hy => by
     obtain ⟨j, hj, e⟩ := List.mem_iff_getElem.1 hy
     rcases Nat.lt_or_ge j (todo.length - 1) with h1 | h1
     ·exact .inl (List.mem_iff_getElem.2 ⟨j, by rw [List.length_take]; omega, by rw [List.getElem_take]; exact e⟩)
     ·refine .inr (e.symm.trans ?_)
      have : j = todo.length - 1 := by omega
      subst this
      exact hi1
    have key : ∀ ok1 : Bool, (ok1 = true → ok = true ∧ nT locks (List.getD l i aa) (List.getD out i 0#32) = true) → (∀ T, Lab l locks T → ok1 = true) → ∃ out' met' ok', (bind (aR out met (List.take (todo.length - 1) todo) (succ (List.getD l i aa)) l locks ok1 (tbh (List.getD l i aa) (List.getD out i 0#32)) ((succ (List.getD l i aa)).length : Int) 0) fun q => (match q with | .x0 a b c e f => some (.x0 a b e f) | .x1 a b c e => bO a b c l locks e)) = some (df.x1 out' met' ok') ∧ zb l locks out' met' [] ok' ∧ ∀ i, Sn met' i → Don l locks out' met' ok' i := fun ok1 k1 k2 => by
     have S : zb l locks out met (List.take (todo.length - 1) todo) ok1 := ⟨hs.ol, hs.ml, fun y hy => hs.td y (List.mem_of_mem_take hy), hs.z, hs.oz, hs.go, fun T hL => ⟨k2 T hL, (hs.lab T hL).2⟩⟩
     have hlt : (List.take (todo.length - 1) todo).length = todo.length - 1 := by rw [List.length_take]; omega
     have q := yb l locks i hi2 hll (hsr i hi2) (succ (List.getD l i aa)).length 0 out met (List.take (todo.length - 1) todo) ok1 (Nat.zero_add _) S hi3 (by omega) (fun T hL => by rw [(hs.lab T hL).2 i hi3])
     rw [show ((0 : Nat) : Int) = 0 from rfl] at q
     obtain ⟨o2, m2, t2, k3, q1, q2, q3, q4, q5, q6, q7, q8⟩ := q
     rw [bind_some q1]
     simp only []
     refine D0 l locks hll hsr d o2 m2 t2 k3 (by omega) (by omega) q2 fun c hc hct => ?_
     rcases q7 c hc with h1 | h1
     ·by_cases e : c = i
      ·subst e
       have fnd : ∀ y : Nat, (y : Int) ∈ succ (List.getD l c aa) → Sn m2 y ∧ (k3 = true → List.getD o2 y 0#32 = tbh (List.getD l c aa) (List.getD out c 0#32)) := fun y hy => by
        obtain ⟨j, hj, e⟩ := List.mem_iff_getElem.1 hy
        obtain ⟨b, b1, b2, b3⟩ := q8 j (Nat.zero_le _) hj
        have : y = b := by rw [e] at b1; exact Int.ofNat.inj b1
        subst this
        exact ⟨b2, b3⟩
       refine ⟨fun y hy => (fnd y hy).1, fun hk => ?_⟩
       rw [q3.o c hi3]
       exact ⟨(k1 (q3.k hk)).2, fun y hy => (fnd y hy).2 hk⟩
      ·have hnt : (c : Int) ∉ todo := fun hm => by
        rcases mem_or _ hm with h2 | h2
        ·exact hct (q6 _ h2)
        ·exact e (Int.ofNat.inj h2)
       exact (hdon c h1 hnt).mono ⟨q3.m, q3.o, fun hk => (k1 (q3.k hk)).1⟩ h1
     ·exact absurd h1 hct
    rw [bO, iP (by omega), e1, iP (by omega), iP (by omega), iP (by omega), Int.toNat_natCast (todo.length - 1), hg, iP (by omega), iP (by omega), iP (by omega), Int.toNat_natCast i, bind_some (F9 _ _ _)]
    by_cases hk : ok = true
    ·rw [if_pos hk, bind_some (sO _)]
     exact key _ (fun h => ⟨hk, h⟩) fun T hL => by
      show nT locks (List.getD l i aa) (List.getD out i 0#32) = true
      rw [(hs.lab T hL).2 i hi3]
      exact hL.fine i hi2
    ·rw [if_neg hk, bind_some (sO _)]
     exact key false (fun h => by cases h) fun T hL => absurd (hs.lab T hL).1 hk
theorem yc (out : List W32) (met : List Bool) (hm : met.length ≤ 65536) : ∀ (m k : Nat) (ok : Bool), k + m = met.length → ∃ b, bR out met ok (met.length : Int) (k : Int) = some b ∧ (b = true ↔ ok = true ∧ ∀ i, k ≤ i → i < met.length → Sn met i)
 | 0, k, ok, h => by
  rw [bR, iN (by omega)]
  exact ⟨ok, rfl, ⟨fun h => ⟨h, fun i h1 h2 => by omega⟩, fun h => h.1⟩⟩
 | m + 1, k, ok, h => by
  rw [bR, iP (by omega), iP (by omega), iP (by omega), Int.toNat_natCast, inc k (by omega)]
  by_cases hk : ok = true
  ·rw [if_pos hk]
   obtain ⟨b, b1, b2⟩ := yc out met hm m (k + 1) (List.getD met k false) (by omega)
   refine ⟨b, b1, ?_⟩
   rw [b2]
   constructor
   ·rintro ⟨h1, h2⟩
    refine ⟨hk, fun i h3 h4 => ?_⟩
    rcases Nat.eq_or_lt_of_le h3 with rfl | h5
    ·exact h1
    ·exact h2 i h5 h4
   ·rintro ⟨_, h2⟩
    exact ⟨h2 k (Nat.le_refl _) (by omega), fun i h3 h4 => h2 i (by omega) h4⟩
  ·rw [if_neg hk]
   obtain ⟨b, b1, b2⟩ := yc out met hm m (k + 1) false (by omega)
   exact ⟨b, b1, by rw [b2]; exact ⟨fun h => absurd h.1 (by decide), fun h => absurd h.1 hk⟩⟩
theorem C9 (l : List ab) (locks : List W32) (h0 : 0 < l.length) (hll : l.length ≤ 65536) (hsr : ∀ i, i < l.length → ∀ y ∈ succ (List.getD l i aa), 0 ≤ y ∧ y < (l.length : Int)) : ∃ b out, ey l locks = some (b, out) ∧ out.length = l.length ∧ (b = true → Lab l locks (fun i => List.getD out i 0#32)) ∧ ∀ T, Lab l locks T → b = true ∧ ∀ i, i < l.length → List.getD out i 0#32 = T i := by
 unfold ey
 rw [iP (by omega), if_pos (decide_eq_true (by simp only [az]; omega)), if_pos (decide_eq_true (by simp only [az]; omega)), if_neg (eqF (by omega)), Int.toNat_natCast, if_pos (decide_eq_true (by rw [List.length_replicate]; omega))]
 have hr0 : ∀ i, List.getD (List.replicate l.length (0#32 : W32)) i 0#32 = 0#32 := fun i => by
  rcases Nat.lt_or_ge i l.length with h | h
  ·rw [gdE _ _ _ (by rw [List.length_replicate]; exact h)]; simp
  ·simp [List.getD, h]
 have hm0 : ∀ y, Sn (List.set (List.replicate l.length false) 0 true) y ↔ y = 0 := fun y => by
  rw [cT (by rw [List.length_replicate]; exact h0)]
  exact ⟨fun h => h.elim id fun h => absurd h (ca _ _), .inl⟩
 have S : zb l locks (List.replicate l.length 0#32) (List.set (List.replicate l.length false) 0 true) [0] true := by
  refine ⟨by simp, by simp, fun y hy => ⟨0, by rw [List.mem_singleton.1 hy]; rfl, h0, (hm0 0).2 rfl⟩, (hm0 0).2 rfl, hr0 0, fun i hi => by rw [(hm0 i).1 hi]; exact .start, fun T hL => ⟨rfl, fun i hi => ?_⟩⟩
  rw [(hm0 i).1 hi, hr0]
  exact hL.zero.symm
 have hc := List.count_le_length (a := false) (l := List.set (List.replicate l.length false) 0 true)
 rw [List.length_set, List.length_replicate] at hc
 obtain ⟨out, met, ok, q1, q2, q3⟩ := D0 l locks hll hsr _ _ _ _ _ (Nat.le_refl _) (by rw [List.length_singleton]; omega) S (fun i hi hn => absurd (by rw [(hm0 i).1 hi]; simp) hn)
 have hml := q2.ml
 obtain ⟨b, b1, b2⟩ := yc out met (by omega) met.length 0 ok (Nat.zero_add _)
 rw [show ((0 : Nat) : Int) = 0 from rfl] at b1
 rw [bind_some q1]
 simp only []
 rw [bind_some b1]
 refine ⟨b, out, rfl, q2.ol, fun hb => ?_, fun T hL => ?_⟩
 ·obtain ⟨hk, hall⟩ := b2.1 hb
  have hmet : ∀ i, i < l.length → Sn met i := fun i hi => hall i (Nat.zero_le _) (by omega)
  exact ⟨q2.oz, fun i hi => q2.go i (hmet i hi), fun i hi => ((q3 i (hmet i hi)).f hk).1, fun i y hi hy => ((q3 i (hmet i hi)).f hk).2 y hy⟩
 ·have hgo : ∀ i, Go1 l i → Sn met i := fun i hi => by
   induction hi with
   | start => exact q2.z
   | on i y _ _ hy ih => exact (q3 i ih).s y hy
  have hk := (q2.lab T hL).1
  refine ⟨b2.2 ⟨hk, fun i _ hi => hgo i (hL.all i (by omega))⟩, fun i hi => (q2.lab T hL).2 i (hgo i (hL.all i hi))⟩
theorem Hs (x : ab) (t : W32) (i : Nat) (hi : i < 32) : (tbh x t).getLsbD i = true ↔ if x.kind = 3 then t.getLsbD i = true ∨ x.arg = (i : Int) else if x.kind = 4 then t.getLsbD i = true ∧ x.arg ≠ (i : Int) else t.getLsbD i = true := by
 unfold tbh
 by_cases k3 : x.kind = 3
 ·rw [if_pos k3, if_pos k3, BitVec.getLsbD_or, Bool.or_eq_true, ik]
  exact ⟨fun h => h.imp id fun h => h.1, fun h => h.imp id fun h => ⟨h, hi⟩⟩
 ·rw [if_neg k3, if_neg k3]
  by_cases k4 : x.kind = 4
  ·rw [if_pos k4, if_pos k4, BitVec.getLsbD_and, Bool.and_eq_true, BitVec.getLsbD_not]
   have := ik x.arg i
   cases e : (one x.arg).getLsbD i with
   | true =>
    have := (this.1 e).1
    simp [this]
   | false =>
    have hne : x.arg ≠ (i : Int) := fun h => by
     rw [this.2 ⟨h, hi⟩] at e; cases e
    simp [hi, hne]
  ·rw [if_neg k4, if_neg k4]
theorem Ga (x : ab) (t : W32) : ∀ (m i : Nat) (s : List Int), i + m = 32 → s.length ≤ i → ∃ u, aG s x.kind x.arg x.next x.alt t (i : Int) = some (s ++ u) ∧ gj i u ∧ ∀ b : Nat, (b : Int) ∈ u ↔ i ≤ b ∧ b < 32 ∧ (tbh x t).getLsbD b = true
 | 0, i, s, h, hs => by
  rw [aG, iN (by omega)]
  exact ⟨[], by simp, trivial, fun b => by simp; omega⟩
 | m + 1, i, s, h, hs => by
  have hb := Hs x t i (by omega)
  have yes : (tbh x t).getLsbD i = true → ∃ u, (if (Nat.ble ((List.length s + List.length ([(i : Int)])) * 8) az) = true then aG (s ++ [(i : Int)]) x.kind x.arg x.next x.alt t ((i + 1 : Nat) : Int) else none) = some (s ++ u) ∧ gj i u ∧ ∀ b : Nat, (b : Int) ∈ u ↔ i ≤ b ∧ b < 32 ∧ (tbh x t).getLsbD b = true := fun c => by
   rw [if_pos (Nat.ble_eq_true_of_le (by simp only [List.length_singleton, az]; omega))]
   obtain ⟨u, q1, q2, q3⟩ := Ga x t m (i + 1) (s ++ [(i : Int)]) (by omega) (by simp; omega)
   refine ⟨(i : Int) :: u, by rw [q1]; simp, ⟨Int.le_refl _, by omega, by rw [Int.toNat_natCast]; exact q2⟩, fun b => ?_⟩
   rw [List.mem_cons, q3]
   constructor
   ·rintro (h1 | ⟨h1, h2⟩)
    ·have : b = i := by omega
     subst this
     exact ⟨Nat.le_refl _, by omega, c⟩
    ·exact ⟨by omega, h2⟩
   ·rintro ⟨h1, h2⟩
    rcases Nat.eq_or_lt_of_le h1 with rfl | h4
    ·exact .inl rfl
    ·exact .inr ⟨h4, h2⟩
  have no : ¬ (tbh x t).getLsbD i = true → ∃ u, aG s x.kind x.arg x.next x.alt t ((i + 1 : Nat) : Int) = some (s ++ u) ∧ gj i u ∧ ∀ b : Nat, (b : Int) ∈ u ↔ i ≤ b ∧ b < 32 ∧ (tbh x t).getLsbD b = true := fun c => by
   obtain ⟨u, q1, q2, q3⟩ := Ga x t m (i + 1) s (by omega) (by omega)
   refine ⟨u, q1, q2.mono (by omega), fun b => ?_⟩
   rw [q3]
   constructor
   ·rintro ⟨h1, h2⟩; exact ⟨by omega, h2⟩
   ·rintro ⟨h1, h2, h3⟩
    rcases Nat.eq_or_lt_of_le h1 with rfl | h4
    ·exact absurd h3 c
    ·exact ⟨h4, h2, h3⟩
  rw [aG, iP (by omega), bind_some (qf t (i : Int)), if_pos (show 0 ≤ (i : Int) ∧ (i : Int) < 32 by omega), Int.toNat_natCast, inc i (by omega)]
  by_cases k3 : x.kind = 3
  ·have k4 : ¬ x.kind = 4 := by omega
   rw [if_pos k3] at hb
   rw [if_pos (eqT k3)]
   by_cases e : x.arg = (i : Int)
   ·rw [if_pos (eqT e), if_neg (eqF k4)]
    exact yes (hb.2 (.inr e))
   ·rw [if_neg (eqF e), if_neg (eqF k4)]
    by_cases c : t.getLsbD i = true
    ·rw [if_pos c]
     exact yes (hb.2 (.inl c))
    ·rw [if_neg c]
     exact no fun h => (hb.1 h).elim c e
  ·rw [if_neg k3] at hb
   rw [if_neg (eqF k3)]
   by_cases k4 : x.kind = 4
   ·rw [if_pos k4] at hb
    rw [if_pos (eqT k4)]
    by_cases e : x.arg = (i : Int)
    ·rw [if_pos (eqT e)]
     exact no fun h => (hb.1 h).2 e
    ·rw [if_neg (eqF e)]
     by_cases c : t.getLsbD i = true
     ·rw [if_pos c]
      exact yes (hb.2 ⟨c, e⟩)
     ·rw [if_neg c]
      exact no fun h => c (hb.1 h).1
   ·rw [if_neg k4] at hb
    rw [if_neg (eqF k4)]
    by_cases c : t.getLsbD i = true
    ·rw [if_pos c]
     exact yes (hb.2 c)
    ·rw [if_neg c]
     exact no fun h => c (hb.1 h)
theorem yd (x : ab) (t : W32) : eK x t = some (tbh x t) := by
 obtain ⟨u, u1, u2, u3⟩ := Ga x t 32 0 [] rfl (Nat.le_refl _)
 rw [show ((0 : Nat) : Int) = 0 from rfl, List.nil_append] at u1
 obtain ⟨y, y1, y2⟩ := wz u (by have := u2.length_le (by omega); omega) u2
 have e : y = tbh x t := BitVec.eq_of_getLsbD_eq fun i hi => by
  rw [Bool.eq_iff_iff, y2, u3]
  exact ⟨fun h => h.2.2, fun h => ⟨Nat.zero_le _, hi, h⟩⟩
 unfold eK fV
 rw [bind_some u1, bind_some y1, e]
 rfl
structure RS (l : List ab) (locks : List W32) (out : List W32) (met : List Bool) : Prop where
 ol : out.length = l.length
 ml : met.length = l.length
 z : Sn met 0
 oz : List.getD out 0 0#32 = 0#32
 go : ∀ i, Sn met i → Go1 l i
 lab : ∀ T, Lab l locks T → ∀ i, Sn met i → List.getD out i 0#32 = T i
def On1 (l : List ab) (x y : Nat) : Prop := x < l.length ∧ (y : Int) ∈ succ (List.getD l x aa)
theorem Da (l : List ab) (locks : List W32) (i : Nat) (hi : i < l.length) (hll : l.length ≤ 65536) (hj : ∀ y ∈ succ (List.getD l i aa), 0 ≤ y ∧ y < (l.length : Int)) (x3 x4 x5 : Int) (x6 : FS) (x8 : Int) : ∀ (m k : Nat) (out : List W32) (met : List Bool), k + m = (succ (List.getD l i aa)).length → RS l locks out met → ∃ out' met', bz out met (succ (List.getD l i aa)) x3 x4 x5 x6 l x8 (i : Int) (k : Int) = some (out', met') ∧ RS l locks out' met' ∧ (∀ y, Sn met y → Sn met' y) ∧ (∀ y, Sn met' y → Sn met y ∨ (Sn met i ∧ On1 l i y)) ∧ (Sn met i → ∀ j, k ≤ j → ∀ (h : j < (succ (List.getD l i aa)).length), ∃ b : Nat, (succ (List.getD l i aa))[j] = (b : Int) ∧ Sn met' b)
 | 0, k, out, met, h, hs => by
  rw [bz, iN (by omega)]
  exact ⟨out, met, rfl, hs, fun y h => h, fun y h => .inl h, fun _ j h1 h2 => by omega⟩
 | m + 1, k, out, met, h, hs => by
  have hlt : k < (succ (List.getD l i aa)).length := by omega
  have hg : List.getD (succ (List.getD l i aa)) k 0 = (succ (List.getD l i aa))[k] := gdE _ _ _ hlt
  have hmem := List.getElem_mem hlt
  have hr := hj _ hmem
  obtain ⟨b, hb⟩ : ∃ b : Nat, (succ (List.getD l i aa))[k] = (b : Int) := ⟨((succ (List.getD l i aa))[k]).toNat, by omega⟩
  have hbm : (b : Int) ∈ succ (List.getD l i aa) := by rw [← hb]; exact hmem
  have hol := hs.ol
  have hml := hs.ml
  have sl := mf (List.getD l i aa)
  rw [hb] at hr hg
  rw [bz, iP (by omega), iP (by omega), iP (by omega), Int.toNat_natCast i]
  by_cases hmi : Sn met i
  ·rw [if_pos (show List.getD met i false = true from hmi), iP (by omega), iP (by omega), Int.toNat_natCast k, hg, iP (by omega), iP (by omega), Int.toNat_natCast b, inc k (by omega)]
   have hgi := hs.go i hmi
   by_cases hm : Sn met b
   ·have hm' : List.getD met b false = true := hm
    rw [hm', if_neg (by decide)]
    obtain ⟨out', met', q1, q2, q3, q4, q5⟩ := Da l locks i hi hll hj x3 x4 x5 x6 x8 m (k + 1) out met (by omega) hs
    refine ⟨out', met', q1, q2, q3, q4, fun hh j h3 h4 => ?_⟩
    rcases Nat.eq_or_lt_of_le h3 with rfl | h5
    ·exact ⟨b, hb, q3 b hm⟩
    ·exact q5 hh j h5 h4
   ·have hm' : List.getD met b false = false := by rw [← Bool.not_eq_true]; exact hm
    have hbl : b < met.length := by omega
    have hbo : b < out.length := by omega
    have hib : i ≠ b := fun e => hm (by rw [← e]; exact hmi)
    have hb0 : (0 : Nat) ≠ b := fun e => hm (by rw [← e]; exact hs.z)
    rw [hm', if_pos (by decide), iP (by omega), iP (by omega), bind_some (yd _ _), iP (by omega)]
    have S : RS l locks (out.set b (tbh (List.getD l i aa) (List.getD out i 0#32))) (met.set b true) := by
     refine ⟨by rw [List.length_set]; exact hol, by rw [List.length_set]; exact hml, (cT hbl).2 (.inr hs.z), by rw [BX _ _ _ _ _ hbo, if_neg hb0]; exact hs.oz, fun y hy => ?_, fun T hL y hy => ?_⟩
     ·rcases (cT hbl).1 hy with h1 | h1
      ·rw [h1]; exact .on i b hgi hi hbm
      ·exact hs.go y h1
     ·rw [BX _ _ _ _ _ hbo]
      by_cases e : y = b
      ·rw [if_pos e, e, hs.lab T hL i hmi]
       exact (hL.on i b hi hbm).symm
      ·rw [if_neg e]
       rcases (cT hbl).1 hy with h1 | h1
       ·exact absurd h1 e
       ·exact hs.lab T hL y h1
    obtain ⟨out', met', q1, q2, q3, q4, q5⟩ := Da l locks i hi hll hj x3 x4 x5 x6 x8 m (k + 1) _ _ (by omega) S
    refine ⟨out', met', q1, q2, fun y hy => q3 y ((cT hbl).2 (.inr hy)), fun y hy => ?_, fun _ j h3 h4 => ?_⟩
    ·rcases q4 y hy with h1 | ⟨_, h1⟩
     ·rcases (cT hbl).1 h1 with h2 | h2
      ·exact .inr ⟨hmi, hi, by rw [h2]; exact hbm⟩
      ·exact .inl h2
     ·exact .inr ⟨hmi, h1⟩
    ·rcases Nat.eq_or_lt_of_le h3 with rfl | h5
     ·exact ⟨b, hb, q3 b ((cT hbl).2 (.inl rfl))⟩
     ·exact q5 ((cT hbl).2 (.inr hmi)) j h5 h4
  ·rw [if_neg (show ¬ List.getD met i false = true from hmi)]
   exact ⟨out, met, rfl, hs, fun y h => h, fun y h => .inl h, fun hh => absurd hh hmi⟩
theorem H1 (l : List ab) (locks : List W32) (hll : l.length ≤ 65536) (hsr : ∀ i, i < l.length → ∀ y ∈ succ (List.getD l i aa), 0 ≤ y ∧ y < (l.length : Int)) (x2 x3 x4 : Int) (x5 : FS) (x7 : Int) : ∀ (m f : Nat) (out : List W32) (met : List Bool), f + m = l.length → RS l locks out met → ∃ out' met', cv out met x2 x3 x4 x5 l x7 (f : Int) = some (out', met') ∧ RS l locks out' met' ∧ (∀ y, Sn met y → Sn met' y) ∧ (∀ Q : Nat → Prop, (∀ x y, Q x → On1 l x y → Q y) → (∀ y, Sn met y → Q y) → ∀ y, Sn met' y → Q y) ∧ ∀ x y, f ≤ x → Sn met x → On1 l x y → Sn met' y
 | 0, f, out, met, h, hs => by
  rw [cv, iN (by omega)]
  exact ⟨out, met, rfl, hs, fun y h => h, fun Q _ h => h, fun x y hx hsx e => by have := e.1; omega⟩
 | m + 1, f, out, met, h, hs => by
  obtain ⟨o1, m1, g1, g2, g3, g4, g5⟩ := Da l locks f (by omega) hll (hsr f (by omega)) x2 x3 x4 x5 x7 (succ (List.getD l f aa)).length 0 out met (Nat.zero_add _) hs
  rw [show ((0 : Nat) : Int) = 0 from rfl] at g1
  rw [cv, iP (by omega), iP (by omega), iP (by omega), Int.toNat_natCast, bind_some (nw _), bind_some g1, inc f (by omega)]
  obtain ⟨o2, m2, k1, k2, k3, k4, k5⟩ := H1 l locks hll hsr x2 x3 x4 x5 x7 m (f + 1) o1 m1 (by omega) g2
  refine ⟨o2, m2, k1, k2, fun y hy => k3 y (g3 y hy), fun Q hQ hsQ => k4 Q hQ fun y hy => ?_, fun x y hx hsx e => ?_⟩
  ·rcases g4 y hy with h1 | ⟨h1, h2⟩
   ·exact hsQ y h1
   ·exact hQ f y (hsQ f h1) h2
  ·rcases Nat.eq_or_lt_of_le hx with rfl | hx
   ·obtain ⟨j, hj, e2⟩ := List.mem_iff_getElem.1 e.2
    obtain ⟨b, b1, b2⟩ := g5 hsx j (Nat.zero_le _) hj
    have : y = b := by rw [e2] at b1; exact Int.ofNat.inj b1
    subst this
    exact k3 _ b2
   ·exact k5 x y hx (g3 x hsx) e
def AM (l : List ab) (s : List Bool) : Prop := ∀ x, Sn s x → ∀ y, On1 l x y → Sn s y
theorem H2 (l : List ab) (locks : List W32) (hll : l.length ≤ 65536) (hsr : ∀ i, i < l.length → ∀ y ∈ succ (List.getD l i aa), 0 ≤ y ∧ y < (l.length : Int)) (x2 x3 x4 : Int) (x5 : FS) : ∀ (m r : Nat) (out : List W32) (met : List Bool), r + m = l.length → RS l locks out met → ∃ out' met', cw out met x2 x3 x4 x5 l (r : Int) = some (out', met') ∧ RS l locks out' met' ∧ (∀ y, Sn met y → Sn met' y) ∧ (∀ Q : Nat → Prop, (∀ x y, Q x → On1 l x y → Q y) → (∀ y, Sn met y → Q y) → ∀ y, Sn met' y → Q y) ∧ (AM l met' ∨ met'.count false + m ≤ met.count false)
 | 0, r, out, met, h, hs => by
  rw [cw, iN (by omega)]
  exact ⟨out, met, rfl, hs, fun y h => h, fun Q _ h => h, .inr (by omega)⟩
 | m + 1, r, out, met, h, hs => by
  obtain ⟨o1, m1, g1, g2, g3, g4, g5⟩ := H1 l locks hll hsr x2 x3 x4 x5 (r : Int) l.length 0 out met (Nat.zero_add _) hs
  rw [show ((0 : Nat) : Int) = 0 from rfl] at g1
  rw [cw, iP (by omega), bind_some g1, inc r (by omega)]
  obtain ⟨o2, m2, k1, k2, k3, k4, k5⟩ := H2 l locks hll hsr x2 x3 x4 x5 m (r + 1) o1 m1 (by omega) g2
  refine ⟨o2, m2, k1, k2, fun y hy => k3 y (g3 y hy), fun Q hQ hsQ => k4 Q hQ (g4 Q hQ hsQ), ?_⟩
  by_cases hcl : AM l met
  ·left
   have e1 : ∀ y, Sn m1 y → Sn met y := g4 (Sn met) (fun x y hx e => hcl x hx y e) fun y h => h
   have e2 : ∀ y, Sn m2 y → Sn met y := fun y hy => e1 y (k4 (Sn m1) (fun x y hx e => g3 y (hcl x (e1 x hx) y e)) (fun y h => h) y hy)
   exact fun x hx y e => k3 y (g3 y (hcl x (e2 x hx) y e))
  ·rcases k5 with k5 | k5
   ·exact .inl k5
   ·right
    have : ∃ x y, Sn met x ∧ On1 l x y ∧ ¬ Sn met y := by
     apply Classical.byContradiction
     intro hno
     exact hcl fun x hx y e => Classical.byContradiction fun h => hno ⟨x, y, hx, e, h⟩
    obtain ⟨x, y, h1, h2, h3⟩ := this
    have hl1 := hs.ml
    have hl2 := g2.ml
    have := mg (by omega) g3 h3 (g5 x y (Nat.zero_le _) h1 h2)
    omega
theorem I0 {x y : W32} : (x &&& y == 0#32) = true ↔ ∀ b, x.getLsbD b = true → ¬ y.getLsbD b = true := by
 rw [beq_iff_eq]
 constructor
 ·intro h b hx hy
  have : (x &&& y).getLsbD b = true := by rw [BitVec.getLsbD_and, hx, hy]; rfl
  rw [h] at this
  simp at this
 ·intro h
  refine BitVec.eq_of_getLsbD_eq fun i _ => ?_
  rw [BitVec.getLsbD_and]
  cases e : x.getLsbD i with
  | false => simp
  | true =>
   have := h i e
   rw [Bool.not_eq_true] at this
   rw [this]
   simp
theorem Gb (x : ab) (l : List ab) (i : Nat) (hi : i < l.length) (hj : ∀ y ∈ succ x, 0 ≤ y ∧ y < (l.length : Int)) (out : List W32) (hol : out.length = l.length) (met : List Bool) (x3 x4 x5 : Int) (x6 : FS) : ∀ (m k : Nat), k + m = (succ x).length → ∃ b : Bool, av out met (succ x) x3 x4 x5 x6 x.kind x.arg x.next x.alt l (i : Int) (k : Int) = some (if b = true then .x1 else .x0 0) ∧ (b = true ↔ ∀ j, k ≤ j → ∀ (h : j < (succ x).length), List.getD out ((succ x)[j]).toNat 0#32 = tbh x (List.getD out i 0#32))
 | 0, k, h => by
  rw [av, iN (by omega)]
  exact ⟨true, rfl, ⟨fun _ j h1 h2 => by omega, fun _ => rfl⟩⟩
 | m + 1, k, h => by
  have hlt : k < (succ x).length := by omega
  have hg : List.getD (succ x) k 0 = (succ x)[k] := gdE _ _ _ hlt
  have hr := hj _ (List.getElem_mem hlt)
  have sl := mf x
  rw [av, iP (by omega), iP (by omega), iP (by omega), Int.toNat_natCast k, hg, iP (by omega), iP (by omega), iP (by omega), iP (by omega), Int.toNat_natCast i, bind_some (show eK (ab.mk x.kind x.arg x.next x.alt) _ = _ from yd x _), inc k (by omega)]
  by_cases e : List.getD out ((succ x)[k]).toNat 0#32 = tbh x (List.getD out i 0#32)
  ·rw [if_neg (show ¬ (List.getD out ((succ x)[k]).toNat 0#32 != tbh x (List.getD out i 0#32)) = true by rw [bne_iff_ne]; exact fun hn => hn e)]
   obtain ⟨b, b1, b2⟩ := Gb x l i hi hj out hol met x3 x4 x5 x6 m (k + 1) (by omega)
   refine ⟨b, b1, ?_⟩
   rw [b2]
   constructor
   ·intro hh j h1 h2
    rcases Nat.eq_or_lt_of_le h1 with rfl | h3
    ·exact e
    ·exact hh j h3 h2
   ·exact fun hh j h1 h2 => hh j (by omega) h2
  ·rw [if_pos (show (List.getD out ((succ x)[k]).toNat 0#32 != tbh x (List.getD out i 0#32)) = true by rw [bne_iff_ne]; exact e)]
   exact ⟨false, rfl, ⟨(fun h => by cases h), fun hh => absurd (hh k (Nat.le_refl _) hlt) e⟩⟩
theorem Gc (u : List Int) (hu : gj 0 u) (l : List ab) (i : Nat) (hi : i < l.length) (out : List W32) (hol : out.length = l.length) (met : List Bool) (x3 x4 x5 : Int) (x6 : FS) (x7 x8 x9 x10 : Int) : ∀ (m k : Nat), k + m = u.length → ∃ b : Bool, aN out met u x3 x4 x5 x6 x7 x8 x9 x10 l (i : Int) (k : Int) = some (if b = true then .x1 else .x0 0) ∧ (b = true ↔ ∀ j, k ≤ j → ∀ (h : j < u.length), ¬ (List.getD out i 0#32).getLsbD (u[j]).toNat = true)
 | 0, k, h => by
  rw [aN, iN (by omega)]
  exact ⟨true, rfl, ⟨fun _ j h1 h2 => by omega, fun _ => rfl⟩⟩
 | m + 1, k, h => by
  have hlt : k < u.length := by omega
  have hg : List.getD u k 0 = u[k] := gdE _ _ _ hlt
  have hr := hu.nat _ (List.getElem_mem hlt)
  have hul := hu.length_le (by omega)
  rw [aN, iP (by omega), iP (by omega), iP (by omega), iP (by omega), iP (by omega), Int.toNat_natCast i, Int.toNat_natCast k, hg, bind_some (qf _ _), if_pos (show 0 ≤ u[k] ∧ u[k] < 32 by omega), inc k (by omega)]
  by_cases e : (List.getD out i 0#32).getLsbD (u[k]).toNat = true
  ·rw [if_pos e]
   exact ⟨false, rfl, ⟨(fun h => by cases h), fun hh => absurd e (hh k (Nat.le_refl _) hlt)⟩⟩
  ·rw [if_neg e]
   obtain ⟨b, b1, b2⟩ := Gc u hu l i hi out hol met x3 x4 x5 x6 x7 x8 x9 x10 m (k + 1) (by omega)
   refine ⟨b, b1, ?_⟩
   rw [b2]
   constructor
   ·intro hh j h1 h2
    rcases Nat.eq_or_lt_of_le h1 with rfl | h3
    ·exact e
    ·exact hh j h3 h2
   ·exact fun hh j h1 h2 => hh j (by omega) h2
structure Uss (p : ae) (locks : List W32) : Prop where
 len : locks.length = p.funcs.length
 use : ∀ g : Nat, g < p.funcs.length → ∃ u, bA p (g : Int) = some u ∧ gj 0 u ∧ ∀ b : Nat, (List.getD locks g 0#32).getLsbD b = true ↔ (b : Int) ∈ u
def Chk (l : List ab) (locks : List W32) (out : List W32) (met : List Bool) (j : Nat) : Prop := Sn met j ∧ nT locks (List.getD l j aa) (List.getD out j 0#32) = true ∧ ∀ q, ∀ (h : q < (succ (List.getD l j aa)).length), List.getD out ((succ (List.getD l j aa))[q]).toNat 0#32 = tbh (List.getD l j aa) (List.getD out j 0#32)
theorem Gd (p : ae) (hlk : p.locks ≤ 16) (locks : List W32) (hU : Uss p locks) (l : List ab) (hll : l.length ≤ 65536) (hok : ∀ i, i < l.length → nt p (List.getD l i aa) (l.length : Int)) (out : List W32) (met : List Bool) (hol : out.length = l.length) (hml : met.length = l.length) : ∀ (m i : Nat), i + m = l.length → ∃ b : Bool, ax out met p.globals p.locks p.slots p.funcs l (i : Int) = some (if b = true then .x1 else .x0 0) ∧ (b = true ↔ ∀ j, i ≤ j → j < l.length → Chk l locks out met j)
 | 0, i, h => by
  rw [ax, iN (by omega)]
  exact ⟨true, rfl, ⟨fun _ j h1 h2 => by omega, fun _ => rfl⟩⟩
 | m + 1, i, h => by
  have hi : i < l.length := by omega
  have hoki := hok i hi
  have bad : ¬ Chk l locks out met i → ∃ b : Bool, (some (a9.x0 0) : Option a9) = some (if b = true then .x1 else .x0 0) ∧ (b = true ↔ ∀ j, i ≤ j → j < l.length → Chk l locks out met j) := fun hn => ⟨false, rfl, ⟨(fun h => by cases h), fun hh => absurd (hh i (Nat.le_refl _) hi) hn⟩⟩
  obtain ⟨b0, c1, c2⟩ := Gd p hlk locks hU l hll hok out met hol hml m (i + 1) (by omega)
  rw [ax, iP (by omega), iP (by omega), iP (by omega), iP (by omega), Int.toNat_natCast i, bind_some (qf _ _), iP (by omega), inc i (by omega)]
  by_cases hm : Sn met i
  ·have hm' : List.getD met i false = true := hm
   rw [hm', if_neg (show ¬ (!true) = true by decide)]
   have hsr : ∀ y ∈ succ (List.getD l i aa), 0 ≤ y ∧ y < (l.length : Int) := fun y hy => by have := Aw hoki (by omega) y hy; omega
   obtain ⟨b4, d1, d2⟩ := Gb (List.getD l i aa) l i hi hsr out hol met p.globals p.locks p.slots p.funcs (succ (List.getD l i aa)).length 0 (Nat.zero_add _)
   rw [show ((0 : Nat) : Int) = 0 from rfl] at d1
   have hchk : Chk l locks out met i ↔ nT locks (List.getD l i aa) (List.getD out i 0#32) = true ∧ b4 = true := by
    unfold Chk
    rw [d2]
    exact ⟨fun h => ⟨h.2.1, fun j _ hj => h.2.2 j hj⟩, fun h => ⟨hm, h.1, fun q hq => h.2 q (Nat.zero_le _) hq⟩⟩
   have tail : nT locks (List.getD l i aa) (List.getD out i 0#32) = true → ∃ b : Bool, (bind (aK (List.getD l i aa)) fun v => bind (av out met v p.globals p.locks p.slots p.funcs (List.getD l i aa).kind (List.getD l i aa).arg (List.getD l i aa).next (List.getD l i aa).alt l (i : Int) 0) fun q => (match q with | .x0 v => some (.x0 v) | .x1 => ax out met p.globals p.locks p.slots p.funcs l ((i + 1 : Nat) : Int))) = some (if b = true then a9.x1 else .x0 0) ∧ (b = true ↔ ∀ j, i ≤ j → j < l.length → Chk l locks out met j) := fun hf => by
    rw [bind_some (nw _), bind_some d1]
    cases b4 with
    | false => exact bad fun hc => by cases (hchk.1 hc).2
    | true =>
     simp only [if_true]
     refine ⟨b0, c1, ?_⟩
     rw [c2]
     constructor
     ·intro hh j h1 h2
      rcases Nat.eq_or_lt_of_le h1 with rfl | h3
      ·exact hchk.2 ⟨hf, rfl⟩
      ·exact hh j h3 h2
     ·exact fun hh j h1 h2 => hh j (by omega) h2
   have nf : ¬ nT locks (List.getD l i aa) (List.getD out i 0#32) = true → ¬ Chk l locks out met i := fun hf hc => hf (hchk.1 hc).1
   have hlock := hoki.lock
   have hcall := hoki.call
   have tf : nT locks (List.getD l i aa) (List.getD out i 0#32) = (if (List.getD l i aa).kind = 3 then ((List.getD out i 0#32) &&& one (List.getD l i aa).arg) == 0#32 else if (List.getD l i aa).kind = 4 then ((List.getD out i 0#32) &&& one (List.getD l i aa).arg) != 0#32 else if (List.getD l i aa).kind = 9 then (List.getD out i 0#32) == 0#32 else if (List.getD l i aa).kind = 7 then (if 0 ≤ (List.getD l i aa).arg ∧ (List.getD l i aa).arg < locks.length then ((List.getD out i 0#32) &&& List.getD locks (List.getD l i aa).arg.toNat 0#32) == 0#32 else false) else true) := rfl
   have hone : (List.getD l i aa).kind = 3 ∨ (List.getD l i aa).kind = 4 → ((((List.getD out i 0#32) &&& one (List.getD l i aa).arg) == 0#32) = true ↔ ¬ (List.getD out i 0#32).getLsbD (List.getD l i aa).arg.toNat = true) := fun hk => by
    have ha := hlock hk
    rw [I0]
    constructor
    ·intro hh hb
     exact hh _ hb ((ik _ _).2 ⟨by omega, by omega⟩)
    ·intro hh b hb ho
     have := ((ik _ _).1 ho).1
     exact hh (by rw [this, Int.toNat_natCast]; exact hb)
   by_cases k3 : (List.getD l i aa).kind = 3
   ·have ha := hlock (.inl k3)
    rw [if_pos (eqT k3), if_pos (show 0 ≤ (List.getD l i aa).arg ∧ (List.getD l i aa).arg < 32 by omega)]
    rw [if_pos k3] at tf
    by_cases c : (List.getD out i 0#32).getLsbD (List.getD l i aa).arg.toNat = true
    ·rw [if_pos c]
     exact bad (nf fun hf => (hone (.inl k3)).1 (by rw [← tf]; exact hf) c)
    ·rw [if_neg c, if_neg (eqF (by omega)), if_neg (eqF (by omega)), if_neg (eqF (by omega))]
     exact tail (by rw [tf]; exact (hone (.inl k3)).2 c)
   rw [if_neg (eqF k3)]
   rw [if_neg k3] at tf
   by_cases k4 : (List.getD l i aa).kind = 4
   ·have ha := hlock (.inr k4)
    rw [if_pos (eqT k4), if_pos (show 0 ≤ (List.getD l i aa).arg ∧ (List.getD l i aa).arg < 32 by omega)]
    rw [if_pos k4] at tf
    cases c : (List.getD out i 0#32).getLsbD (List.getD l i aa).arg.toNat with
    | false =>
     rw [if_pos (by decide)]
     refine bad (nf fun hf => ?_)
     rw [tf] at hf
     have := (hone (.inr k4)).2 (by rw [c]; decide)
     rw [bne, this] at hf
     cases hf
    | true =>
     rw [if_neg (by decide), if_neg (eqF (by omega)), if_neg (eqF (by omega))]
     refine tail ?_
     rw [tf, bne]
     cases e : ((List.getD out i 0#32) &&& one (List.getD l i aa).arg) == 0#32 with
     | false => rfl
     | true => exact absurd c ((hone (.inr k4)).1 e)
   rw [if_neg (eqF k4)]
   rw [if_neg k4] at tf
   by_cases k9 : (List.getD l i aa).kind = 9
   ·rw [if_pos (eqT k9)]
    rw [if_pos k9] at tf
    by_cases c : List.getD out i 0#32 = 0#32
    ·rw [if_neg (show ¬ (List.getD out i 0#32 != 0#32) = true by rw [bne_iff_ne]; exact fun hn => hn c), if_neg (eqF (by omega))]
     exact tail (by rw [tf, c]; rfl)
    ·rw [if_pos (show (List.getD out i 0#32 != 0#32) = true by rw [bne_iff_ne]; exact c)]
     exact bad (nf fun hf => c (by rw [tf] at hf; exact beq_iff_eq.1 hf))
   rw [if_neg (eqF k9)]
   rw [if_neg k9] at tf
   by_cases k7 : (List.getD l i aa).kind = 7
   ·have ha := hcall k7
    rw [if_pos (eqT k7)]
    have hul := hU.len
    rw [if_pos k7, if_pos (show 0 ≤ (List.getD l i aa).arg ∧ (List.getD l i aa).arg < (locks.length : Int) by omega)] at tf
    obtain ⟨u, u1, u2, u3⟩ := hU.use (List.getD l i aa).arg.toNat (by omega)
    rw [show (((List.getD l i aa).arg.toNat : Nat) : Int) = (List.getD l i aa).arg by omega] at u1
    obtain ⟨b8, e1, e2⟩ := Gc u u2 l i hi out hol met p.globals p.locks p.slots p.funcs (List.getD l i aa).kind (List.getD l i aa).arg (List.getD l i aa).next (List.getD l i aa).alt u.length 0 (Nat.zero_add _)
    rw [show ((0 : Nat) : Int) = 0 from rfl] at e1
    have hfi : nT locks (List.getD l i aa) (List.getD out i 0#32) = true ↔ b8 = true := by
     rw [tf, I0, e2]
     constructor
     ·intro hh j _ hj hb
      have hr := u2.nat _ (List.getElem_mem hj)
      refine hh _ hb ((u3 _).2 ?_)
      rw [show (((u[j]).toNat : Nat) : Int) = u[j] by omega]
      exact List.getElem_mem hj
     ·intro hh b hb hl
      obtain ⟨j, hj, e⟩ := List.mem_iff_getElem.1 ((u3 b).1 hl)
      exact hh j (Nat.zero_le _) hj (by rw [e, Int.toNat_natCast]; exact hb)
    rw [bind_some (show bA (ae.mk p.globals p.locks p.slots p.funcs) _ = _ from u1), bind_some e1]
    cases b8 with
    | false => exact bad (nf fun hf => by cases hfi.1 hf)
    | true =>
     simp only [if_true]
     exact tail (hfi.2 rfl)
   ·rw [if_neg (eqF k7)]
    rw [if_neg k7] at tf
    exact tail tf
  ·have hm' : List.getD met i false = false := by rw [← Bool.not_eq_true]; exact hm
   rw [hm', if_pos (show (!false) = true by decide)]
   exact bad fun hc => hm hc.1
theorem Db (p : ae) (hg : dI p) (locks : List W32) (hU : Uss p locks) (f : Nat) (hf : f < p.funcs.length) : ∃ (is : Int) (out : List W32), dR p (f : Int) = some (is, out) ∧ (is = 0 ∨ is = 1) ∧ out.length = (List.getD p.funcs f []).length ∧ (is = 1 → Lab (List.getD p.funcs f []) locks (fun i => List.getD out i 0#32)) ∧ ∀ T, Lab (List.getD p.funcs f []) locks T → is = 1 ∧ ∀ i, i < (List.getD p.funcs f []).length → List.getD out i 0#32 = T i := by
 have hll := hg.le f
 have hlk := hg.locks
 have h0 := (hg.len f hf).1
 have hok : ∀ i, i < (List.getD p.funcs f []).length → nt p (List.getD (List.getD p.funcs f []) i aa) ((List.getD p.funcs f []).length : Int) := fun i hi => hg.node f i hf hi
 have hsr : ∀ i, i < (List.getD p.funcs f []).length → ∀ y ∈ succ (List.getD (List.getD p.funcs f []) i aa), 0 ≤ y ∧ y < ((List.getD p.funcs f []).length : Int) := fun i hi y hy => by have := Aw (hok i hi) (by omega) y hy; omega
 unfold dR
 rw [iP (by omega), iP (by omega), Int.toNat_natCast f]
 generalize List.getD p.funcs f [] = l at *
 rw [iP (by omega), if_pos (decide_eq_true (by simp only [az]; omega)), if_pos (decide_eq_true (by simp only [az]; omega)), Int.toNat_natCast, if_pos (decide_eq_true (by rw [List.length_replicate]; omega))]
 have hr0 : ∀ i, List.getD (List.replicate l.length (0#32 : W32)) i 0#32 = 0#32 := fun i => by
  rcases Nat.lt_or_ge i l.length with h | h
  ·rw [gdE _ _ _ (by rw [List.length_replicate]; exact h)]; simp
  ·simp [List.getD, h]
 have hm0 : ∀ y, Sn (List.set (List.replicate l.length false) 0 true) y ↔ y = 0 := fun y => by
  rw [cT (by rw [List.length_replicate]; exact h0)]
  exact ⟨fun h => h.elim id fun h => absurd h (ca _ _), .inl⟩
 have S : RS l locks (List.replicate l.length 0#32) (List.set (List.replicate l.length false) 0 true) := ⟨by simp, by simp, (hm0 0).2 rfl, hr0 0, fun i hi => by rw [(hm0 i).1 hi]; exact .start, fun T hL i hi => by rw [(hm0 i).1 hi, hr0]; exact hL.zero.symm⟩
 obtain ⟨out, met, q1, q2, q3, q4, q5⟩ := H2 l locks (by omega) hsr p.globals p.locks p.slots p.funcs l.length 0 _ _ (Nat.zero_add _) S
 rw [show ((0 : Nat) : Int) = 0 from rfl] at q1
 obtain ⟨b, b1, b2⟩ := Gd p (by omega) locks hU l (by omega) hok out met q2.ol q2.ml l.length 0 (Nat.zero_add _)
 rw [show ((0 : Nat) : Int) = 0 from rfl] at b1
 have hcl : AM l met := by
  rcases q5 with h | h
  ·exact h
  ·exfalso
   have h1 := mg (s := List.replicate l.length false) (s' := List.set (List.replicate l.length false) 0 true) (by simp) (fun y hy => absurd hy (ca _ _)) (ca _ 0) ((hm0 0).2 rfl)
   have h2 := List.count_le_length (a := false) (l := List.replicate l.length false)
   rw [List.length_replicate] at h2
   omega
 rw [bind_some q1, bind_some b1]
 have toLab : (∀ j, 0 ≤ j → j < l.length → Chk l locks out met j) → Lab l locks (fun i => List.getD out i 0#32) := fun hall => ⟨q2.oz, fun i hi => q2.go i (hall i (Nat.zero_le _) hi).1, fun i hi => (hall i (Nat.zero_le _) hi).2.1, fun i y hi hy => by
  obtain ⟨j, hj, e⟩ := List.mem_iff_getElem.1 hy
  have := (hall i (Nat.zero_le _) hi).2.2 j hj
  rw [e, Int.toNat_natCast] at this
  exact this⟩
 have hmet : ∀ T, Lab l locks T → ∀ i, i < l.length → Sn met i := fun T hL i hi => by
  have hgo : ∀ i, Go1 l i → Sn met i := fun i hi => by
   induction hi with
   | start => exact q2.z
   | on i y _ h1 hy ih => exact hcl i ih y ⟨h1, hy⟩
  exact hgo i (hL.all i hi)
 have ofLab : ∀ T, Lab l locks T → ∀ j, 0 ≤ j → j < l.length → Chk l locks out met j := fun T hL j _ hj => by
  have eT : ∀ i, i < l.length → List.getD out i 0#32 = T i := fun i hi => q2.lab T hL i (hmet T hL i hi)
  refine ⟨hmet T hL j hj, by rw [eT j hj]; exact hL.fine j hj, fun q hq => ?_⟩
  have hmem := List.getElem_mem hq
  have hr := hsr j hj _ hmem
  rw [eT _ (by omega), eT j hj]
  refine hL.on j _ hj ?_
  rw [show ((((succ (List.getD l j aa))[q]).toNat : Nat) : Int) = (succ (List.getD l j aa))[q] by omega]
  exact hmem
 cases b with
 | true => exact ⟨1, out, rfl, .inr rfl, q2.ol, fun _ => toLab (b2.1 rfl), fun T hL => ⟨rfl, fun i hi => q2.lab T hL i (hmet T hL i hi)⟩⟩
 | false => exact ⟨0, out, rfl, .inl rfl, q2.ol, (fun h => by cases h), fun T hL => absurd (b2.2 (ofLab T hL)) (by decide)⟩
theorem D1 : fc = some true := qW 40 _ (by kernel_rfl)
def spn (l : List ab) : Nat → Nat → List Int
 | i, 0 => []
 | i, m + 1 => (if (List.getD l i aa).kind = 5 then [(i : Int)] else []) ++ spn l (i + 1) m
theorem D2 (l : List ab) : ∀ (m i : Nat), (spn l i m).length ≤ m
 | 0, i => Nat.le_refl _
 | m + 1, i => by
  have := D2 l m (i + 1)
  unfold spn
  split <;> simp <;> omega
theorem Ge (l : List ab) (hl : l.length ≤ 65536) (x0 : List Bool) (x2 x3 x4 : Int) (x5 : FS) (x6 x7 : W32) : ∀ (m i : Nat) (x1 : List Int), i + m = l.length → x1.length ≤ i → eX x0 x1 x2 x3 x4 x5 x6 x7 l (l.length : Int) (i : Int) = some (x1 ++ spn l i m)
 | 0, i, x1, h, hx => by
  rw [eX, iN (by omega), spn, List.append_nil]
 | m + 1, i, x1, h, hx => by
  rw [eX, iP (by omega), iP (by omega), iP (by omega), Int.toNat_natCast, inc i (by omega), spn]
  by_cases k : (List.getD l i aa).kind = 5
  ·rw [if_pos (eqT k), if_pos (Nat.ble_eq_true_of_le (by simp only [List.length_singleton, az]; omega)), if_pos k, Ge l hl x0 x2 x3 x4 x5 x6 x7 m (i + 1) _ (by omega) (by simp; omega), List.append_assoc]
  ·rw [if_neg (eqF k), if_neg k, Ge l hl x0 x2 x3 x4 x5 x6 x7 m (i + 1) _ (by omega) (by omega)]
   rfl
theorem Gf (p : ae) (h0 : 0 < p.funcs.length) (hl : (List.getD p.funcs 0 []).length ≤ 65536) : ∀ (m i : Nat) (x0 : List Int), i + m = (List.getD p.funcs 0 []).length → x0.length ≤ i → cq x0 p.globals p.locks p.slots p.funcs (i : Int) = some (x0 ++ spn (List.getD p.funcs 0 []) i m)
 | 0, i, x0, h, hx => by
  rw [cq, iP (by omega), iN (by omega), spn, List.append_nil]
 | m + 1, i, x0, h, hx => by
  rw [cq, iP (by omega), iP (by omega), iP (by omega), iP (by omega), Int.toNat_natCast, inc i (by omega), spn]
  by_cases k : (List.getD (List.getD p.funcs 0 []) i aa).kind = 5
  ·rw [if_pos (eqT k), if_pos (Nat.ble_eq_true_of_le (by simp only [List.length_singleton, az]; omega)), if_pos k, Gf p h0 hl m (i + 1) _ (by omega) (by simp; omega), List.append_assoc]
  ·rw [if_neg (eqF k), if_neg k, Gf p h0 hl m (i + 1) _ (by omega) (by omega)]
   rfl
def Cll (l : List ab) (beh : List Bool) (w : Bool) (i : Nat) (y : Int) : Prop := ∃ j, i ≤ j ∧ j < l.length ∧ (List.getD l j aa).kind = 7 ∧ List.getD beh j false = w ∧ (List.getD l j aa).arg = y
theorem gk {l : List ab} {beh : List Bool} {w : Bool} {i : Nat} {y : Int} (hi : i < l.length) : Cll l beh w i y ↔ ((List.getD l i aa).kind = 7 ∧ List.getD beh i false = w ∧ (List.getD l i aa).arg = y) ∨ Cll l beh w (i + 1) y := by
 constructor
 ·rintro ⟨j, h1, h2, h3⟩
  rcases Nat.eq_or_lt_of_le h1 with rfl | h4
  ·exact .inl h3
  ·exact .inr ⟨j, h4, h2, h3⟩
 ·rintro (h | ⟨j, h1, h2⟩)
  ·exact ⟨i, Nat.le_refl _, hi, h⟩
  ·exact ⟨j, by omega, h2⟩
theorem wD {l : List ab} {beh : List Bool} {w : Bool} {i : Nat} {y : Int} (hi : l.length ≤ i) : ¬ Cll l beh w i y := fun ⟨j, h1, h2, _⟩ => by omega
theorem AN (l : List ab) (hl : l.length ≤ 65536) (beh : List Bool) (hb : beh.length = l.length) (x0 : List Bool) (x2 x3 x4 : Int) (x5 : FS) (x6 x7 x8 x9 : W32) : ∀ (m i : Nat) (e t : W32) (_ : W32), i + m = l.length → ∃ e' t', dS x0 beh x2 x3 x4 x5 x6 x7 x8 x9 e t l (l.length : Int) (i : Int) = some (e', t') ∧ (∀ b, e'.getLsbD b = true ↔ e.getLsbD b = true ∨ (b < 32 ∧ Cll l beh false i (b : Int))) ∧ ∀ b, t'.getLsbD b = true ↔ t.getLsbD b = true ∨ (b < 32 ∧ Cll l beh true i (b : Int))
 | 0, i, e, t, _, h => by
  rw [dS, iN (by omega)]
  exact ⟨e, t, rfl, fun b => ⟨.inl, fun h => h.elim id fun h2 => absurd h2.2 (wD (by omega))⟩, fun b => ⟨.inl, fun h => h.elim id fun h2 => absurd h2.2 (wD (by omega))⟩⟩
 | m + 1, i, e, t, z, h => by
  have hi : i < l.length := by omega
  rw [dS, iP (by omega), iP (by omega), iP (by omega), Int.toNat_natCast, inc i (by omega)]
  by_cases k : (List.getD l i aa).kind = 7
  ·rw [if_neg (show ¬ ((List.getD l i aa).kind != 7) = true by rw [bne_iff_ne]; exact fun hn => hn k), iP (by omega)]
   cases c : List.getD beh i false with
   | true =>
    rw [if_pos (show true = true from rfl), bind_some (nv _)]
    obtain ⟨e', t', q1, q2, q3⟩ := AN l hl beh hb x0 x2 x3 x4 x5 x6 x7 x8 x9 m (i + 1) e (t ||| one (List.getD l i aa).arg) z (by omega)
    refine ⟨e', t', q1, fun b => ?_, fun b => ?_⟩
    ·rw [q2, gk hi, c]
     exact ⟨fun h => h.imp id fun h => ⟨h.1, .inr h.2⟩, fun h => h.imp id fun h => ⟨h.1, h.2.elim (fun h => by cases h.2.1) id⟩⟩
    ·rw [q3, gk hi, c, BitVec.getLsbD_or, Bool.or_eq_true, ik]
     constructor
     ·rintro ((h | h) | h)
      ·exact .inl h
      ·exact .inr ⟨h.2, .inl ⟨k, rfl, h.1⟩⟩
      ·exact .inr ⟨h.1, .inr h.2⟩
     ·rintro (h | ⟨h1, h2 | h2⟩)
      ·exact .inl (.inl h)
      ·exact .inl (.inr ⟨h2.2.2, h1⟩)
      ·exact .inr ⟨h1, h2⟩
   | false =>
    rw [if_neg (by decide), bind_some (nv _)]
    obtain ⟨e', t', q1, q2, q3⟩ := AN l hl beh hb x0 x2 x3 x4 x5 x6 x7 x8 x9 m (i + 1) (e ||| one (List.getD l i aa).arg) t z (by omega)
    refine ⟨e', t', q1, fun b => ?_, fun b => ?_⟩
    ·rw [q2, gk hi, c, BitVec.getLsbD_or, Bool.or_eq_true, ik]
     constructor
     ·rintro ((h | h) | h)
      ·exact .inl h
      ·exact .inr ⟨h.2, .inl ⟨k, rfl, h.1⟩⟩
      ·exact .inr ⟨h.1, .inr h.2⟩
     ·rintro (h | ⟨h1, h2 | h2⟩)
      ·exact .inl (.inl h)
      ·exact .inl (.inr ⟨h2.2.2, h1⟩)
      ·exact .inr ⟨h1, h2⟩
    ·rw [q3, gk hi, c]
     exact ⟨fun h => h.imp id fun h => ⟨h.1, .inr h.2⟩, fun h => h.imp id fun h => ⟨h.1, h.2.elim (fun h => by cases h.2.1) id⟩⟩
  ·rw [if_pos (show ((List.getD l i aa).kind != 7) = true by rw [bne_iff_ne]; exact k)]
   obtain ⟨e', t', q1, q2, q3⟩ := AN l hl beh hb x0 x2 x3 x4 x5 x6 x7 x8 x9 m (i + 1) e t z (by omega)
   refine ⟨e', t', q1, fun b => ?_, fun b => ?_⟩
   ·rw [q2, gk hi]
    exact ⟨fun h => h.imp id fun h => ⟨h.1, .inr h.2⟩, fun h => h.imp id fun h => ⟨h.1, h.2.elim (fun h => absurd h.1 k) id⟩⟩
   ·rw [q3, gk hi]
    exact ⟨fun h => h.imp id fun h => ⟨h.1, .inr h.2⟩, fun h => h.imp id fun h => ⟨h.1, h.2.elim (fun h => absurd h.1 k) id⟩⟩
theorem D3 (p : ae) (h0 : 0 < p.funcs.length) (hl : (List.getD p.funcs 0 []).length ≤ 65536) (beh : List Bool) (hb : beh.length = (List.getD p.funcs 0 []).length) : ∀ (m i : Nat) (e t : List Int), i + m = (List.getD p.funcs 0 []).length → e.length ≤ i → t.length ≤ i → ∃ e' t', bj e t beh p.globals p.locks p.slots p.funcs (i : Int) = some (e', t') ∧ e'.length ≤ i + m ∧ t'.length ≤ i + m ∧ (∀ y, y ∈ e' ↔ y ∈ e ∨ Cll (List.getD p.funcs 0 []) beh false i y) ∧ ∀ y, y ∈ t' ↔ y ∈ t ∨ Cll (List.getD p.funcs 0 []) beh true i y
 | 0, i, e, t, h, he, ht => by
  rw [bj, iP (by omega), iN (by omega)]
  exact ⟨e, t, rfl, by omega, by omega, fun b => ⟨.inl, fun h => h.elim id fun h2 => absurd h2 (wD (by omega))⟩, fun b => ⟨.inl, fun h => h.elim id fun h2 => absurd h2 (wD (by omega))⟩⟩
 | m + 1, i, e, t, h, he, ht => by
  have hi : i < (List.getD p.funcs 0 []).length := by omega
  rw [bj, iP (by omega), iP (by omega), iP (by omega), iP (by omega), Int.toNat_natCast, inc i (by omega)]
  by_cases k : (List.getD (List.getD p.funcs 0 []) i aa).kind = 7
  ·rw [if_pos (eqT k), iP (by omega)]
   cases c : List.getD beh i false with
   | true =>
    rw [if_pos (show true = true from rfl), if_pos (Nat.ble_eq_true_of_le (by simp only [List.length_singleton, az]; omega)), if_neg (show ¬ (!true) = true by decide)]
    obtain ⟨e', t', q1, l1, l2, q2, q3⟩ := D3 p h0 hl beh hb m (i + 1) e (t ++ [(List.getD (List.getD p.funcs 0 []) i aa).arg]) (by omega) (by omega) (by rw [List.length_append, List.length_singleton]; omega)
    refine ⟨e', t', q1, by omega, by omega, fun y => ?_, fun y => ?_⟩
    ·rw [q2, gk hi, c]
     exact ⟨fun h => h.imp id .inr, fun h => h.imp id fun h => h.elim (fun h => by cases h.2.1) id⟩
    ·rw [q3, gk hi, c, List.mem_append, List.mem_singleton]
     constructor
     ·rintro ((h | h) | h)
      ·exact .inl h
      ·exact .inr (.inl ⟨k, rfl, h.symm⟩)
      ·exact .inr (.inr h)
     ·rintro (h | h | h)
      ·exact .inl (.inl h)
      ·exact .inl (.inr h.2.2.symm)
      ·exact .inr h
   | false =>
    rw [if_neg (show ¬ (false = true) by decide), if_pos (show (!false) = true by decide), if_pos (Nat.ble_eq_true_of_le (by simp only [List.length_singleton, az]; omega))]
    obtain ⟨e', t', q1, l1, l2, q2, q3⟩ := D3 p h0 hl beh hb m (i + 1) (e ++ [(List.getD (List.getD p.funcs 0 []) i aa).arg]) t (by omega) (by rw [List.length_append, List.length_singleton]; omega) (by omega)
    refine ⟨e', t', q1, by omega, by omega, fun y => ?_, fun y => ?_⟩
    ·rw [q2, gk hi, c, List.mem_append, List.mem_singleton]
     constructor
     ·rintro ((h | h) | h)
      ·exact .inl h
      ·exact .inr (.inl ⟨k, rfl, h.symm⟩)
      ·exact .inr (.inr h)
     ·rintro (h | h | h)
      ·exact .inl (.inl h)
      ·exact .inl (.inr h.2.2.symm)
      ·exact .inr h
    ·rw [q3, gk hi, c]
     exact ⟨fun h => h.imp id .inr, fun h => h.imp id fun h => h.elim (fun h => by cases h.2.1) id⟩
  ·rw [if_neg (eqF k)]
   obtain ⟨e', t', q1, l1, l2, q2, q3⟩ := D3 p h0 hl beh hb m (i + 1) e t (by omega) (by omega) (by omega)
   refine ⟨e', t', q1, by omega, by omega, fun y => ?_, fun y => ?_⟩
   ·rw [q2, gk hi]
    exact ⟨fun h => h.imp id .inr, fun h => h.imp id fun h => h.elim (fun h => absurd h.1 k) id⟩
   ·rw [q3, gk hi]
    exact ⟨fun h => h.imp id .inr, fun h => h.imp id fun h => h.elim (fun h => absurd h.1 k) id⟩
theorem Dc (p : ae) (hg : dI p) (x0 : List Int) (x2 : List Bool) : ∀ (m f : Nat) (t : List Int), f + m = p.funcs.length → t.length ≤ 1000 + f → ∃ t', bX x0 t x2 p.globals p.locks p.slots p.funcs (f : Int) = some t' ∧ t'.length ≤ 1000 + f + m ∧ ∀ y, y ∈ t' ↔ y ∈ t ∨ ∃ g : Nat, f ≤ g ∧ g < p.funcs.length ∧ FN p.funcs g ∧ y = (g : Int)
 | 0, f, t, h, ht => by
  rw [bX, iN (by omega)]
  exact ⟨t, rfl, by omega, fun y => ⟨.inl, fun h => h.elim id fun ⟨g, h1, h2, _⟩ => by omega⟩⟩
 | m + 1, f, t, h, ht => by
  have hn := hg.funcs
  obtain ⟨b, b1, b2⟩ := Bx p hg f (by omega)
  rw [bX, iP (by omega), bind_some (show fS (ae.mk p.globals p.locks p.slots p.funcs) (f : Int) = _ from b1), inc f (by omega)]
  cases b with
  | true =>
   rw [if_pos (show true = true from rfl), if_pos (Nat.ble_eq_true_of_le (by simp only [List.length_singleton, az]; omega))]
   obtain ⟨t', q1, q2, q3⟩ := Dc p hg x0 x2 m (f + 1) (t ++ [(f : Int)]) (by omega) (by rw [List.length_append, List.length_singleton]; omega)
   refine ⟨t', q1, by omega, fun y => ?_⟩
   rw [q3, List.mem_append, List.mem_singleton]
   constructor
   ·rintro ((h1 | h1) | ⟨g, h1, h2⟩)
    ·exact .inl h1
    ·exact .inr ⟨f, Nat.le_refl _, by omega, b2.1 rfl, h1⟩
    ·exact .inr ⟨g, by omega, h2⟩
   ·rintro (h1 | ⟨g, h1, h2, h3, h4⟩)
    ·exact .inl (.inl h1)
    ·rcases Nat.eq_or_lt_of_le h1 with rfl | h5
     ·exact .inl (.inr h4)
     ·exact .inr ⟨g, h5, h2, h3, h4⟩
  | false =>
   rw [if_neg (by decide)]
   obtain ⟨t', q1, q2, q3⟩ := Dc p hg x0 x2 m (f + 1) t (by omega) (by omega)
   refine ⟨t', q1, by omega, fun y => ?_⟩
   rw [q3]
   constructor
   ·rintro (h1 | ⟨g, h1, h2⟩)
    ·exact .inl h1
    ·exact .inr ⟨g, by omega, h2⟩
   ·rintro (h1 | ⟨g, h1, h2, h3, h4⟩)
    ·exact .inl h1
    ·rcases Nat.eq_or_lt_of_le h1 with rfl | h5
     ·exact absurd (b2.2 h3) (by decide)
     ·exact .inr ⟨g, h5, h2, h3, h4⟩
theorem Gg (p : ae) {a b e : Int} (hk : bM p = some (a, b, e)) (he : e ≠ 0) : iq p = some (0#32, 0#32, e, []) := by
 unfold iq
 rw [bind_some hk, if_pos (show (e != 0) = true by rw [bne_iff_ne]; exact he)]
abbrev B8 := BitVec 8
def cF (n : Nat) : List B8 := if n < 128 then [BitVec.ofNat 8 n] else BitVec.ofNat 8 (128 + n % 128) :: cF (n / 128)
 termination_by n
 decreasing_by omega
theorem wE {n : Nat} (h : n < 128) : cF n = [BitVec.ofNat 8 n] := by rw [cF, if_pos h]
theorem AO {n : Nat} (h : ¬ n < 128) : cF n = BitVec.ofNat 8 (128 + n % 128) :: cF (n / 128) := by rw [cF, if_neg h]
theorem BY : ∀ (k n : Nat), n < 128 ^ (k + 1) → (cF n).length ≤ k + 1
 | 0, n, h => by rw [wE (by simpa using h)]; simp
 | k + 1, n, h => by
  by_cases h1 : n < 128
  ·rw [wE h1]; simp
  ·rw [AO h1, List.length_cons]
   have := BY k (n / 128) (Nat.div_lt_of_lt_mul (by rw [Nat.pow_succ, Nat.mul_comm] at h; exact h))
   omega
theorem bx {n : Nat} (h : n < 4294967296) : (cF n).length ≤ 5 := BY 4 n (Nat.lt_of_lt_of_le h (by decide))
theorem I1 (x : BitVec 32) : (BitVec.setWidth 8 x ||| 128#8) = BitVec.ofNat 8 (128 + x.toNat % 128) := by
 apply BitVec.eq_of_toNat_eq
 have key : ∀ m, m < 256 → m ||| 128 = (128 + m % 128) % 256 := by decide
 rw [BitVec.toNat_or, BitVec.toNat_setWidth, BitVec.toNat_ofNat]
 show x.toNat % 256 ||| 128 = (128 + x.toNat % 128) % 256
 rw [key _ (Nat.mod_lt _ (by decide)), Nat.mod_mod_of_dvd _ (by decide : 128 ∣ 256)]
theorem fq {a : Nat} (h : a ≤ 100000000000000) : Nat.ble (a * 1) az = true := Nat.ble_eq_true_of_le (by unfold az; omega)
theorem Gh : ∀ (k : Nat) (x0 : List B8) (x1 : BitVec 32), x1.toNat < 128 ^ (k + 1) → x0.length + k ≤ 1000000000 → ∃ z y, fM x0 x1 = some (x0 ++ z, y) ∧ z.length ≤ k ∧ z ++ [BitVec.setWidth 8 y] = cF x1.toNat
 | k, x0, x1, h, hl => by
  by_cases h1 : x1.toNat < 128
  ·refine ⟨[], x1, ?_, by simp, ?_⟩
   ·rw [fM, if_neg (by simp only [decide_eq_true_eq, BitVec.le_def]; show ¬ 128 ≤ x1.toNat; omega), List.append_nil]
   ·rw [wE h1]
    simp [← BitVec.ofNat_toNat]
  ·cases k with
   | zero => exact absurd (by simpa using h) h1
   | succ k =>
    have hs : (x1 >>> (BitVec.toNat (7#64))).toNat = x1.toNat / 128 := by
     rw [BitVec.toNat_ushiftRight, Nat.shiftRight_eq_div_pow]; rfl
    obtain ⟨z, y, q1, q2, q3⟩ := Gh k (x0 ++ [(BitVec.setWidth 8 x1) ||| (128#8)]) (x1 >>> (BitVec.toNat (7#64))) (by
     rw [hs]; exact Nat.div_lt_of_lt_mul (by rw [Nat.pow_succ, Nat.mul_comm] at h; exact h)) (by rw [List.length_append]; simp; omega)
    refine ⟨((BitVec.setWidth 8 x1) ||| (128#8)) :: z, y, ?_, by rw [List.length_cons]; omega, ?_⟩
    ·rw [fM, if_pos (by simp only [decide_eq_true_eq, BitVec.le_def]; show 128 ≤ x1.toNat; omega), if_pos (fq (by simp; omega)), q1, List.append_assoc]
     rfl
    ·rw [AO h1, List.cons_append, q3, hs, I1]
theorem Ip (n : BitVec 32) : nF n = some (cF n.toNat) := by
 obtain ⟨z, y, q1, q2, q3⟩ := Gh 4 [] n (Nat.lt_of_lt_of_le n.isLt (by decide)) (by simp)
 unfold nF
 rw [bind_some q1]
 simp only [List.nil_append]
 rw [if_pos (fq (by simp; omega)), q3]
theorem kC (l : List B8) (n : Int) (h0 : 0 ≤ n) (h : n < 4294967296) (hl : l.length ≤ 1000000000) : bh l n = some (l ++ cF n.toNat) := by
 have e : (BitVec.ofInt 32 n).toNat = n.toNat := by rw [BitVec.toNat_ofInt]; simp; omega
 unfold bh
 rw [bind_some (Ip _), e, if_pos (fq (by have := bx (n := n.toNat) (by omega); omega))]
def ye (x : ab) : List B8 := cF x.kind.toNat ++ (if x.kind = 9 then [] else if x.kind = 0 then cF x.next.toNat else if x.kind = 5 then cF x.arg.toNat ++ (cF x.next.toNat ++ cF x.alt.toNat) else if x.kind = 8 then cF x.next.toNat ++ cF x.alt.toNat else cF x.arg.toNat ++ cF x.next.toNat)
def jK (l : List ab) : Nat → Nat → List B8
 | _, 0 => []
 | i, m + 1 => ye (List.getD l i aa) ++ jK l (i + 1) m
def jL (fs : FS) : Nat → Nat → List B8
 | _, 0 => []
 | f, m + 1 => cF (List.getD fs f []).length ++ jK (List.getD fs f []) 0 (List.getD fs f []).length ++ jL fs (f + 1) m
def jC (p : ae) : List B8 := [97#8, 108#8, 112#8, 49#8] ++ (cF p.globals.toNat ++ (cF p.locks.toNat ++ (cF p.slots.toNat ++ (cF p.funcs.length ++ jL p.funcs 0 p.funcs.length))))
def Sm (x : ab) : Prop := (0 ≤ x.kind ∧ x.kind ≤ 9) ∧ (x.kind ≠ 9 → 0 ≤ x.next ∧ x.next < 65536) ∧ (x.kind ≠ 9 → x.kind ≠ 0 → x.kind ≠ 8 → 0 ≤ x.arg ∧ x.arg < 65536) ∧ (x.kind = 5 ∨ x.kind = 8 → 0 ≤ x.alt ∧ x.alt < 65536)
theorem BZ {p : ae} (hg : dI p) {f i : Nat} (hf : f < p.funcs.length) (hi : i < (List.getD p.funcs f []).length) : Sm (List.getD (List.getD p.funcs f []) i aa) := by
 have h := hg.node f i hf hi
 have h1 := hg.globals
 have h2 := hg.locks
 have h3 := hg.slots
 have h4 := hg.funcs
 have h5 := hg.le f
 generalize List.getD (List.getD p.funcs f []) i aa = x at h
 have k := h.kind
 refine ⟨k, fun h9 => ?_, fun h9 h0 h8 => ?_, fun hh => ?_⟩
 ·have := h.next h9; omega
 ·have a1 := h.glob; have a2 := h.lock; have a3 := h.spawn; have a4 := h.join; have a5 := h.call
  omega
 ·have a3 := h.spawn; have a6 := h.alt
  omega
theorem uN {x : ab} (h : Sm x) : (ye x).length ≤ 20 := by
 obtain ⟨h1, h2, h3, h4⟩ := h
 have q0 := bx (n := x.kind.toNat) (by omega)
 unfold ye
 rw [List.length_append]
 split
 ·simp; omega
 ·rename_i k9
  have q1 := bx (n := x.next.toNat) (by have := h2 k9; omega)
  split
  ·omega
  ·rename_i k0
   split
   ·have q2 := bx (n := x.arg.toNat) (by have := h3 k9 k0 (by omega); omega)
    have q3 := bx (n := x.alt.toNat) (by have := h4 (.inl ‹_›); omega)
    simp only [List.length_append]; omega
   ·split
    ·have q3 := bx (n := x.alt.toNat) (by have := h4 (.inr ‹_›); omega)
     simp only [List.length_append]; omega
    ·have q2 := bx (n := x.arg.toNat) (by have := h3 k9 k0 ‹_›; omega)
     simp only [List.length_append]; omega
theorem nK {l : List ab} (h : ∀ i, i < l.length → Sm (List.getD l i aa)) : ∀ (m i : Nat), i + m ≤ l.length → (jK l i m).length ≤ 20 * m
 | 0, i, hi => by simp [jK]
 | m + 1, i, hi => by
  have h1 := uN (h i (by omega))
  have h2 := nK h m (i + 1) (by omega)
  simp only [jK, List.length_append]; omega
theorem zS (x1 : FS) (x2 x3 : Int) (l : List ab) (hle : l.length ≤ 65536) (h : ∀ i, i < l.length → Sm (List.getD l i aa)) : ∀ (m i : Nat) (b : List B8), i + m = l.length → b.length + 20 * m ≤ 1000000000 → bP b x1 x2 x3 l (l.length : Int) (i : Int) = some (b ++ jK l i m)
 | 0, i, b, hi, hb => by
  rw [bP, iN (by omega), jK, List.append_nil]
 | m + 1, i, b, hi, hb => by
  rw [bP, iP (by omega), iP (by omega), iP (by omega), Int.toNat_natCast i, inc i (by omega)]
  have hx := h i (by omega)
  have hl := uN hx
  have hw := zS x1 x2 x3 l hle h m (i + 1) (b ++ ye (List.getD l i aa)) (by omega) (by rw [List.length_append]; omega)
  rw [jK, ← List.append_assoc, ← hw]
  generalize List.getD l i aa = x at hx hl
  obtain ⟨h1, h2, h3, h4⟩ := hx
  have q0 := bx (n := x.kind.toNat) (by omega)
  rw [bind_some (kC b x.kind (by omega) (by omega) (by omega))]
  unfold pr ye
  by_cases k9 : x.kind = 9
  ·rw [if_pos (eqT k9), if_pos k9, List.append_nil]
   rfl
  rw [if_neg (eqF k9), if_neg k9]
  have n2 := h2 k9
  have q1 := bx (n := x.next.toNat) (by omega)
  by_cases k0 : x.kind = 0
  ·rw [if_pos (eqT k0), if_pos k0]
   simp only [bind, Option.bind_some, iR, iQ]
   rw [kC _ x.next (by omega) (by omega) (by rw [List.length_append]; omega)]
   simp only [Option.bind_some, List.append_assoc]
  rw [if_neg (eqF k0), if_neg k0]
  by_cases k5 : x.kind = 5
  ·have n3 := h3 k9 k0 (by omega)
   have n4 := h4 (.inl k5)
   have q2 := bx (n := x.arg.toNat) (by omega)
   rw [if_pos (eqT k5), if_pos k5]
   simp only [bind, Option.bind_some, iV, iU, iT, iS]
   rw [kC _ x.arg (by omega) (by omega) (by rw [List.length_append]; omega)]
   simp only [Option.bind_some]
   rw [kC _ x.next (by omega) (by omega) (by simp only [List.length_append]; omega)]
   simp only [Option.bind_some]
   rw [kC _ x.alt (by omega) (by omega) (by simp only [List.length_append]; omega)]
   simp only [Option.bind_some, List.append_assoc]
  rw [if_neg (eqF k5), if_neg k5]
  by_cases k8 : x.kind = 8
  ·have n4 := h4 (.inr k8)
   rw [if_pos (eqT k8), if_pos k8]
   simp only [bind, Option.bind_some, iY, iX, iW]
   rw [kC _ x.next (by omega) (by omega) (by simp only [List.length_append]; omega)]
   simp only [Option.bind_some]
   rw [kC _ x.alt (by omega) (by omega) (by simp only [List.length_append]; omega)]
   simp only [Option.bind_some, List.append_assoc]
  ·have n3 := h3 k9 k0 k8
   have q2 := bx (n := x.arg.toNat) (by omega)
   rw [if_neg (eqF k8), if_neg k8]
   simp only [bind, Option.bind_some, iw, iu, ir]
   rw [kC _ x.arg (by omega) (by omega) (by simp only [List.length_append]; omega)]
   simp only [Option.bind_some]
   rw [kC _ x.next (by omega) (by omega) (by simp only [List.length_append]; omega)]
   simp only [Option.bind_some, List.append_assoc]
theorem yf {p : ae} (hg : dI p) : ∀ (m f : Nat), f + m ≤ p.funcs.length → (jL p.funcs f m).length ≤ 1285 * m
 | 0, f, hi => by simp [jL]
 | m + 1, f, hi => by
  have hle := hg.le f
  have h1 := nK (fun i hi' => BZ hg (f := f) (by omega) hi') (List.getD p.funcs f []).length 0 (by omega)
  have h2 := yf hg m (f + 1) (by omega)
  have h3 := bx (n := (List.getD p.funcs f []).length) (by omega)
  simp only [jL, List.length_append]; omega
theorem zT {p : ae} (hg : dI p) : ∀ (m f : Nat) (b : List B8), f + m = p.funcs.length → b.length + 1285 * m ≤ 100000000 → eN b p.funcs (p.funcs.length : Int) (f : Int) = some (b ++ jL p.funcs f m)
 | 0, f, b, hi, hb => by
  rw [eN, iN (by omega), jL, List.append_nil]
 | m + 1, f, b, hi, hb => by
  have hn := hg.funcs
  have hle := hg.le f
  have h3 := bx (n := (List.getD p.funcs f []).length) (by omega)
  have h1 := nK (fun i hi' => BZ hg (f := f) (by omega) hi') (List.getD p.funcs f []).length 0 (by omega)
  have hw := zT hg m (f + 1) (b ++ (cF (List.getD p.funcs f []).length ++ jK (List.getD p.funcs f []) 0 (List.getD p.funcs f []).length)) (by omega) (by simp only [List.length_append]; omega)
  rw [eN, iP (by omega), iP (by omega), iP (by omega), Int.toNat_natCast f, inc f (by omega), bind_some (kC b _ (by omega) (by omega) (by omega)), Int.toNat_natCast]
  have h16 := zS p.funcs (p.funcs.length : Int) (f : Int) (List.getD p.funcs f []) (by omega) (fun i hi' => BZ hg (f := f) (by omega) hi') (List.getD p.funcs f []).length 0 (b ++ cF (List.getD p.funcs f []).length) (by omega) (by rw [List.length_append]; omega)
  rw [show ((0 : Nat) : Int) = 0 from rfl] at h16
  rw [bind_some h16, List.append_assoc, hw, jL]
  simp only [List.append_assoc]
theorem uO {p : ae} (hg : dI p) : (jC p).length ≤ 30000 := by
 have h1 := hg.globals; have h2 := hg.locks; have h3 := hg.slots; have h4 := hg.funcs
 have h := yf hg p.funcs.length 0 (by omega)
 have q1 := bx (n := p.globals.toNat) (by omega)
 have q2 := bx (n := p.locks.toNat) (by omega)
 have q3 := bx (n := p.slots.toNat) (by omega)
 have q4 := bx (n := p.funcs.length) (by omega)
 unfold jC
 simp only [List.length_append, List.length_cons, List.length_nil]
 omega
def B1 (l : List Int) : Nat → Nat → List B8
 | _, 0 => []
 | i, m + 1 => cF (List.getD l i 0).toNat ++ B1 l (i + 1) m
theorem B2 (p : ae) (l : List Int) (hle : l.length ≤ 65536) (h : ∀ i, i < l.length → 0 ≤ List.getD l i 0 ∧ List.getD l i 0 < 65536) : ∀ (m i : Nat) (b : List B8), i + m = l.length → b.length + 5 * m ≤ 1000000000 → eH b l p.globals p.locks p.slots p.funcs (l.length : Int) (i : Int) = some (b ++ B1 l i m)
 | 0, i, b, hi, hb => by
  rw [eH, iN (by omega), B1, List.append_nil]
 | m + 1, i, b, hi, hb => by
  have hx := h i (by omega)
  have q := bx (n := (List.getD l i 0).toNat) (by omega)
  have hw := B2 p l hle h m (i + 1) (b ++ cF (List.getD l i 0).toNat) (by omega) (by rw [List.length_append]; omega)
  rw [eH, iP (by omega), iP (by omega), iP (by omega), Int.toNat_natCast i, inc i (by omega), bind_some (kC b _ hx.1 (by omega) (by omega)), hw, B1, List.append_assoc]
theorem Dd {p : ae} (hg : dI p) (hk : bM p = some (0, 0, 0)) : ld p = some (0, jC p) := by
 have h1 := hg.globals; have h2 := hg.locks; have h3 := hg.slots; have h4 := hg.funcs
 have q1 := bx (n := p.globals.toNat) (by omega)
 have q2 := bx (n := p.locks.toNat) (by omega)
 have q3 := bx (n := p.slots.toNat) (by omega)
 have q4 := bx (n := p.funcs.length) (by omega)
 unfold ld
 rw [bind_some hk, if_neg (by decide)]
 unfold jJ
 rw [if_pos (by decide), bind_some rfl, List.nil_append]
 have h7 := B2 p [p.globals, p.locks, p.slots, (p.funcs.length : Int)] (by simp) (fun i hi => by
  have : i = 0 ∨ i = 1 ∨ i = 2 ∨ i = 3 := by simp at hi; omega
  rcases this with rfl | rfl | rfl | rfl
  ·show 0 ≤ p.globals ∧ p.globals < 65536; omega
  ·show 0 ≤ p.locks ∧ p.locks < 65536; omega
  ·show 0 ≤ p.slots ∧ p.slots < 65536; omega
  ·show 0 ≤ (p.funcs.length : Int) ∧ (p.funcs.length : Int) < 65536; omega) 4 0 [97#8, 108#8, 112#8, 49#8] rfl (by simp)
 have e7 : B1 [p.globals, p.locks, p.slots, (p.funcs.length : Int)] 0 4 = cF p.globals.toNat ++ (cF p.locks.toNat ++ (cF p.slots.toNat ++ (cF p.funcs.length ++ []))) := rfl
 rw [e7, List.append_nil] at h7
 rw [bind_some (show eH [97#8, 108#8, 112#8, 49#8] [p.globals, p.locks, p.slots, (p.funcs.length : Int)] p.globals p.locks p.slots p.funcs _ 0 = _ from h7)]
 have h12 := zT hg p.funcs.length 0 ([97#8, 108#8, 112#8, 49#8] ++ (cF p.globals.toNat ++ (cF p.locks.toNat ++ (cF p.slots.toNat ++ cF p.funcs.length)))) (by omega) (by simp only [List.length_append, List.length_cons, List.length_nil]; omega)
 rw [show ((0 : Nat) : Int) = 0 from rfl] at h12
 have hl := uO hg
 have ep : [97#8, 108#8, 112#8, 49#8] ++ (cF p.globals.toNat ++ (cF p.locks.toNat ++ (cF p.slots.toNat ++ cF p.funcs.length))) ++ jL p.funcs 0 p.funcs.length = jC p := by
  unfold jC; simp only [List.append_assoc]
 rw [bind_some h12, ep]
 unfold iZ
 rw [if_pos (fq (by simp; omega)), List.nil_append]
 rfl
def ic (x : W32) (n : Nat) : W32 := (x <<< (32 - n)) ||| (x >>> n)
theorem Ht (i : Nat) (h : i ≤ 1000000) : dM 4 (i : Int) = ((4 * i : Nat) : Int) := by rw [wK (by omega) (by omega)]; omega
theorem I2 (i : Nat) (h : i ≤ 1000000) : dM 8 (i : Int) = ((8 * i : Nat) : Int) := by rw [wK (by omega) (by omega)]; omega
theorem ka (i k : Nat) (h : i ≤ 1000000) (h2 : k ≤ i) : aF (i : Int) (k : Int) = ((i - k : Nat) : Int) := by rw [io (by omega) (by omega)]; omega
theorem ig {α : Type} (f : Nat → α) (i : Nat) (v : α) : upd f i v i = v := by simp [upd]
theorem lF {α : Type} (f : Nat → α) {i j : Nat} (v : α) (h : j ≠ i) : upd f i v j = f j := by simp [upd, h]
theorem wF {α : Type} (f g : Nat → α) {n i : Nat} (h : i < n) : fN f 0 n g i = g i := by unfold fN; rw [if_pos (by omega), Nat.sub_zero]
def pO (b : List B8) (i : Nat) : W32 := ((((BitVec.setWidth 32 (List.getD b (4 * i) 0#8)) <<< 24) ||| ((BitVec.setWidth 32 (List.getD b (4 * i + 1) 0#8)) <<< 16)) ||| ((BitVec.setWidth 32 (List.getD b (4 * i + 2) 0#8)) <<< 8)) ||| (BitVec.setWidth 32 (List.getD b (4 * i + 3) 0#8))
def vA (w : Nat → W32) (i : Nat) : W32 := ((w (i - 16) + ((ic (w (i - 15)) 7 ^^^ ic (w (i - 15)) 18) ^^^ (w (i - 15) >>> 3))) + w (i - 7)) + ((ic (w (i - 2)) 17 ^^^ ic (w (i - 2)) 19) ^^^ (w (i - 2) >>> 10))
def wN (b : List B8) : Nat → Nat → W32
 | 0 => fun i => if i < 16 then pO b i else 0#32
 | k + 1 => upd (wN b k) (16 + k) (vA (wN b k) (16 + k))
theorem De (b : List B8) (k j : Nat) : List.getD (List.drop k b) j 0#8 = List.getD b (k + j) 0#8 := by simp [List.getD]
theorem Hu (b : List B8) (i : Nat) (h : 4 * i + 4 ≤ b.length) : tx (List.drop (4 * i) b) = some (pO b i) := by
 have hl : (List.drop (4 * i) b).length = b.length - 4 * i := by simp
 unfold tx
 rw [iP (by omega), iP (by omega), iP (by omega), iP (by omega)]
 simp only [De, Nat.add_zero]
 rfl
theorem zU (x0 : Nat → W32) (b : List B8) (hb : 64 ≤ b.length) : ∀ (m i : Nat) (x : Nat → W32), i + m = 16 → (∀ j, j < i → x j = pO b j) → ∃ y, eY x0 x b (i : Int) = some y ∧ ∀ j, j < 16 → y j = pO b j
 | 0, i, x, hi, h => by
  rw [eY, iN (by omega)]
  exact ⟨x, rfl, fun j hj => h j (by omega)⟩
 | m + 1, i, x, hi, h => by
  obtain ⟨y, q1, q2⟩ := zU x0 b hb m (i + 1) (upd x i (pO b i)) (by omega) (fun j hj => by
   by_cases e : j = i
   ·subst e; exact ig _ _ _
   ·rw [lF _ _ e]; exact h j (by omega))
  refine ⟨y, ?_, q2⟩
  rw [eY, iP (by omega), Ht i (by omega), iP (by omega), iP (by omega), Int.toNat_natCast (4 * i), List.take_of_length_le (Nat.le_refl _), bind_some (Hu b i (by omega)), iP (by omega), iP (by omega), Int.toNat_natCast i, inc i (by omega)]
  exact q1
theorem wG (x : W32) : dt x 2 = some (ic x 2) ∧ dt x 6 = some (ic x 6) ∧ dt x 7 = some (ic x 7) ∧ dt x 11 = some (ic x 11) ∧ dt x 13 = some (ic x 13) ∧ dt x 17 = some (ic x 17) ∧ dt x 18 = some (ic x 18) ∧ dt x 19 = some (ic x 19) ∧ dt x 22 = some (ic x 22) ∧ dt x 25 = some (ic x 25) :=
 ⟨by kernel_rfl, by kernel_rfl, by kernel_rfl, by kernel_rfl, by kernel_rfl, by kernel_rfl, by kernel_rfl, by kernel_rfl, by kernel_rfl, by kernel_rfl⟩
theorem zV (x0 : Nat → W32) (b : List B8) : ∀ (m k : Nat) (x : Nat → W32), k + m = 48 → (∀ j, j < 16 + k → x j = wN b k j) → ∃ y, e9 x0 x ((16 + k : Nat) : Int) = some y ∧ ∀ j, j < 64 → y j = wN b 48 j
 | 0, k, x, hk, h => by
  rw [e9, iN (by omega)]
  have : k = 48 := by omega
  subst this
  exact ⟨x, rfl, fun j hj => h j (by omega)⟩
 | m + 1, k, x, hk, h => by
  have e1 := ka (16 + k) 15 (by omega) (by omega)
  have e2 := ka (16 + k) 2 (by omega) (by omega)
  have e3 := ka (16 + k) 16 (by omega) (by omega)
  have e4 := ka (16 + k) 7 (by omega) (by omega)
  have hw : vA x (16 + k) = vA (wN b k) (16 + k) := by
   unfold vA
   rw [h (16 + k - 16) (by omega), h (16 + k - 15) (by omega), h (16 + k - 7) (by omega), h (16 + k - 2) (by omega)]
  obtain ⟨y, q1, q2⟩ := zV x0 b m (k + 1) (upd x (16 + k) (vA x (16 + k))) (by omega) (fun j hj => by
   show _ = upd (wN b k) (16 + k) (vA (wN b k) (16 + k)) j
   by_cases e : j = 16 + k
   ·subst e; rw [ig, ig, hw]
   ·rw [lF _ _ e, lF _ _ e]; exact h j (by omega))
  refine ⟨y, ?_, q2⟩
  have t1 := wG (x (16 + k - 15))
  have t2 := wG (x (16 + k - 2))
  have e1 : aF ((16 + k : Nat) : Int) 15 = ((16 + k - 15 : Nat) : Int) := e1
  have e2 : aF ((16 + k : Nat) : Int) 2 = ((16 + k - 2 : Nat) : Int) := e2
  have e3 : aF ((16 + k : Nat) : Int) 16 = ((16 + k - 16 : Nat) : Int) := e3
  have e4 : aF ((16 + k : Nat) : Int) 7 = ((16 + k - 7 : Nat) : Int) := e4
  rw [e9, iP (by omega), e1, iP (by omega), iP (by omega), e2, iP (by omega), iP (by omega), e3, iP (by omega), iP (by omega),
   Int.toNat_natCast (16 + k - 15), Int.toNat_natCast (16 + k - 2), Int.toNat_natCast (16 + k - 16), bind_some t1.2.2.1, bind_some t1.2.2.2.2.2.2.1, e4, iP (by omega), iP (by omega), Int.toNat_natCast (16 + k - 7), bind_some t2.2.2.2.2.2.1, bind_some t2.2.2.2.2.2.2.2.1, iP (by omega), iP (by omega), Int.toNat_natCast (16 + k), inc (16 + k) (by omega)]
  exact q1
theorem Ff (b : List B8) (hb : 64 ≤ b.length) : ∃ y, nG b = some y ∧ ∀ j, j < 64 → y j = wN b 48 j := by
 obtain ⟨x, q1, q2⟩ := zU (fun _ => 0#32) b hb 16 0 (fun _ => 0#32) (by omega) (fun j hj => by omega)
 obtain ⟨y, q3, q4⟩ := zV (fun _ => 0#32) b 48 0 x (by omega) (fun j hj => by
  rw [q2 j (by omega)]
  show _ = if j < 16 then pO b j else 0#32
  rw [if_pos (by omega)])
 unfold nG
 rw [bind_some (show eY _ _ b 0 = _ from q1), bind_some (show e9 _ x 16 = _ from q3)]
 exact ⟨_, rfl, fun j hj => by rw [wF _ _ hj]; exact q4 j hj⟩
def Iq (s : Nat → W32) (k w : W32) : W32 := (((s 7 + ((ic (s 4) 6 ^^^ ic (s 4) 11) ^^^ ic (s 4) 25)) + ((s 4 &&& s 5) ^^^ (~~~(s 4) &&& s 6))) + k) + w
def I3 (s : Nat → W32) : W32 := ((ic (s 0) 2 ^^^ ic (s 0) 13) ^^^ ic (s 0) 22) + (((s 0 &&& s 1) ^^^ (s 0 &&& s 2)) ^^^ (s 1 &&& s 2))
def rnd (s : Nat → W32) (k w : W32) : Nat → W32 := fun i => if i = 0 then Iq s k w + I3 s else if i = 4 then s 3 + Iq s k w else if i < 8 then s (i - 1) else s i
def rds (w : Nat → W32) (s : Nat → W32) : Nat → Nat → W32
 | 0 => s
 | k + 1 => rnd (rds w s k) (ru k) (w k)
def comp (h : Nat → W32) (b : List B8) : Nat → W32 := fun i => if i < 8 then h i + rds (wN b 48) (fN (fun _ => 0#32) 0 8 h) 64 i else h i
theorem Ir (x : Nat → W32) (t u : W32) (k w : W32) (ht : t = Iq x k w) (hu : u = t + I3 x) : upd (upd (fN x 1 7 (fun i => x (i9 0 i))) 4 ((fN x 1 7 (fun i => x (i9 0 i))) 4 + t)) 0 u = rnd x k w := by
 funext i
 subst hu ht
 unfold rnd
 by_cases h0 : i = 0
 ·subst h0; rw [ig, if_pos rfl]
 ·rw [lF _ _ h0, if_neg h0]
  by_cases h4 : i = 4
  ·subst h4; rw [ig, if_pos rfl]; rfl
  ·rw [lF _ _ h4, if_neg h4]
   unfold fN
   by_cases h8 : i < 8
   ·rw [if_pos (by omega), if_pos h8]; rfl
   ·rw [if_neg (by omega), if_neg h8]
theorem Gi (x0 : List B8) (x1 : Nat → W32) (w : Nat → W32) (hw : ∀ j, j < 64 → x1 j = w j) (s : Nat → W32) (x3 : Nat → W32) (x4 x5 : Nat) (x6 : BitVec 64) : ∀ (m k : Nat), k + m = 64 → cL x0 x1 (rds w s k) x3 x4 x5 x6 ru (k : Int) = some (rds w s 64)
 | 0, k, hk => by
  have : k = 64 := by omega
  subst this
  rw [cL, if_neg (by simp)]
 | m + 1, k, hk => by
  have ih := Gi x0 x1 w hw s x3 x4 x5 x6 m (k + 1) (by omega)
  have t1 := wG (rds w s k 4)
  have t2 := wG (rds w s k 0)
  rw [cL, iP (by omega), iP (by omega), iP (by omega), bind_some t1.2.1, bind_some t1.2.2.2.1, bind_some t1.2.2.2.2.2.2.2.2.2, bind_some t2.1, bind_some t2.2.2.2.2.1, bind_some t2.2.2.2.2.2.2.2.2.1, Int.toNat_natCast k, inc k (by omega), hw k (by omega)]
  exact (congrArg (fun z => cL x0 x1 z x3 x4 x5 x6 ru ((k + 1 : Nat) : Int)) (Ir (rds w s k) _ _ (ru k) (w k) rfl rfl)).trans ih
theorem D4 (x0 : List B8) (r h : Nat → W32) (x3 x4 : Nat) (x5 : BitVec 64) : ∀ (m k : Nat) (x : Nat → W32), k + m = 8 → (∀ j, x j = if j < k then h j + r j else h j) → ∃ y, dg x0 r x x3 x4 x5 (k : Int) = some y ∧ ∀ j, y j = if j < 8 then h j + r j else h j
 | 0, k, x, hk, hx => by
  have : k = 8 := by omega
  subst this
  rw [dg, if_neg (by simp)]
  exact ⟨x, rfl, hx⟩
 | m + 1, k, x, hk, hx => by
  obtain ⟨y, q1, q2⟩ := D4 x0 r h x3 x4 x5 m (k + 1) (upd x k (x k + r k)) (by omega) (fun j => by
   by_cases e : j = k
   ·subst e; rw [ig, if_pos (by omega), hx, if_neg (by omega)]
   ·rw [lF _ _ e, hx]
    by_cases h1 : j < k
    ·rw [if_pos h1, if_pos (by omega)]
    ·rw [if_neg h1, if_neg (by omega)])
  refine ⟨y, ?_, q2⟩
  rw [dg, iP (by omega), iP (by omega), iP (by omega), Int.toNat_natCast k, inc k (by omega)]
  exact q1
theorem Is (l1 : List B8) (h : Nat → W32) (lo n : Nat) (c : BitVec 64) (b : List B8) (hb : 64 ≤ b.length) : jq l1 h lo n c b = some (comp h b) := by
 obtain ⟨y, q1, q2⟩ := Ff b hb
 unfold jq
 have q3 := Gi l1 (fN (fun _ => 0#32) 0 64 y) (wN b 48) (fun j hj => by rw [wF _ _ hj]; exact q2 j hj) (fN (fun _ => 0#32) 0 8 h) h lo n c 64 0 (by omega)
 obtain ⟨z, q4, q5⟩ := D4 l1 (rds (wN b 48) (fN (fun _ => 0#32) 0 8 h) 64) h lo n c 8 0 h (by omega) (fun j => by rw [if_neg (by omega)])
 rw [bind_some q1, bind_some (show cL l1 (fN (fun _ => 0#32) 0 64 y) (fN (fun _ => 0#32) 0 8 h) h lo n c ru 0 = _ from q3), bind_some (show dg l1 _ h lo n c 0 = _ from q4)]
 congr 1
 funext j
 exact q5 j
def blk (h : Nat → W32) (l : List B8) : Nat → Nat → W32
 | 0 => h
 | k + 1 => comp (blk h l k) (List.take 64 (List.drop (64 * k) l))
theorem D5 (h : Nat → W32) (t b : List B8) : ∀ k, 64 * k ≤ t.length → blk h (t ++ b) k = blk h t k
 | 0, _ => rfl
 | k + 1, hk => by
  simp only [blk]
  rw [D5 h t b k (by omega), List.drop_append_of_le_length (by omega), List.take_append_of_le_length (by simp; omega)]
theorem D6 (h : Nat → W32) (l : List B8) (q : Nat) : ∀ k, blk (blk h l q) (List.drop (64 * q) l) k = blk h l (q + k)
 | 0 => rfl
 | k + 1 => by
  simp only [blk]
  rw [D6 h l q k, List.drop_drop, show 64 * q + 64 * k = 64 * (q + k) by omega]
  rfl
theorem B3 (x0 l : List B8) (h : Nat → W32) (x3 x4 : Nat) (x5 : BitVec 64) (hl : l.length ≤ 1000000000) : ∀ (m j : Nat), j + m = l.length / 64 → cB x0 l (blk h l j) x3 x4 x5 (64 * j) (l.length - 64 * j) = some (blk h l (l.length / 64), 64 * (l.length / 64), l.length - 64 * (l.length / 64))
 | 0, j, hj => by
  rw [cB, iN (by omega)]
  rw [show j = l.length / 64 by omega]
 | m + 1, j, hj => by
  have ih := B3 x0 l h x3 x4 x5 hl m (j + 1) (by omega)
  rw [cB, iP (by omega), iP (by omega), gM, gM, iP (by omega), Nat.add_zero, bind_some (Is x0 (blk h l j) x3 x4 x5 _ (by simp; omega)), show 64 * j + 64 = 64 * (j + 1) by omega, show l.length - 64 * j - 64 = l.length - 64 * (j + 1) by omega]
  exact ih
def H0 (i : Nat) : W32 := List.getD [1779033703#32, 3144134277#32, 1013904242#32, 2773480762#32, 1359893119#32, 2600822924#32, 528734635#32, 1541459225#32] i (0#32)
structure Rep (l1 : List B8) (h : Nat → W32) (lo n : Nat) (c : BitVec 64) (t : List B8) : Prop where
 hh : h = blk H0 t (t.length / 64)
 left : List.take n (List.drop lo l1) = List.drop (64 * (t.length / 64)) t
 nn : n = t.length - 64 * (t.length / 64)
 fits : lo + n ≤ l1.length
 cc : c = BitVec.ofNat 64 t.length
theorem qr {l1 : List B8} {h : Nat → W32} {lo n : Nat} {c : BitVec 64} {t : List B8} (r : Rep l1 h lo n c t) (b : List B8) (hs : t.length + b.length ≤ 100000000) : ∃ l' h' lo' n' c', d6 l1 h lo n c b = some (l', h', lo', n', c') ∧ Rep l' h' lo' n' c' (t ++ b) := by
 have hq := r.nn
 have hL : (List.drop (64 * (t.length / 64)) t ++ b) = List.drop (64 * (t.length / 64)) (t ++ b) := (List.drop_append_of_le_length (by omega)).symm
 have hn : (List.drop (64 * (t.length / 64)) (t ++ b)).length = t.length + b.length - 64 * (t.length / 64) := by simp
 have hd : t.length / 64 + (t.length + b.length - 64 * (t.length / 64)) / 64 = (t ++ b).length / 64 := by rw [List.length_append]; omega
 have w := B3 l1 (List.drop (64 * (t.length / 64)) (t ++ b)) h lo n (c + BitVec.ofInt 64 (b.length : Int)) (by rw [hn]; omega) ((List.drop (64 * (t.length / 64)) (t ++ b)).length / 64) 0 (by omega)
 rw [Nat.mul_zero, Nat.sub_zero] at w
 have w : cB l1 (List.drop (64 * (t.length / 64)) (t ++ b)) h lo n (c + BitVec.ofInt 64 (b.length : Int)) 0 (List.drop (64 * (t.length / 64)) (t ++ b)).length = _ := w
 refine ⟨(List.drop (64 * (t.length / 64)) (t ++ b)), blk h (List.drop (64 * (t.length / 64)) (t ++ b)) ((List.drop (64 * (t.length / 64)) (t ++ b)).length / 64), 64 * ((List.drop (64 * (t.length / 64)) (t ++ b)).length / 64), (List.drop (64 * (t.length / 64)) (t ++ b)).length - 64 * ((List.drop (64 * (t.length / 64)) (t ++ b)).length / 64), c + BitVec.ofInt 64 (b.length : Int), ?_, ?_⟩
 ·unfold d6
  rw [if_pos (decide_eq_true r.fits), if_pos (fq (by simp; omega)), List.nil_append, r.left, if_pos (fq (by simp; omega)), hL, bind_some w]
 ·refine ⟨?_, ?_, ?_, ?_, ?_⟩
  ·rw [hn, r.hh, ← D5 H0 t b _ (by omega), D6, hd]
  ·rw [hn, List.take_of_length_le (by simp; omega), List.drop_drop, show 64 * (t.length / 64) + 64 * ((t.length + b.length - 64 * (t.length / 64)) / 64) = 64 * (t.length / 64 + (t.length + b.length - 64 * (t.length / 64)) / 64) by omega, hd]
  ·rw [hn, ← hd, List.length_append]; omega
  ·rw [hn]; omega
  ·rw [r.cc, List.length_append]
   apply BitVec.eq_of_toNat_eq
   rw [BitVec.toNat_add, BitVec.toNat_ofInt, BitVec.toNat_ofNat, BitVec.toNat_ofNat]
   omega
def pz (n : Nat) : Nat := (64 + 56 - n % 64) % 64
theorem Gj (x0 : List B8) (x1 : Nat → B8) (x3 : Nat → W32) (x4 x5 : Nat) (x6 x11 : BitVec 64) : ∀ (m : Nat) (l1 : List B8) (h : Nat → W32) (lo n : Nat) (c : BitVec 64) (t : List B8), m = pz t.length → t.length + m ≤ 90000000 → Rep l1 h lo n c t → ∃ l' h' lo' n' c', eb x0 x1 l1 x3 x4 x5 x6 h lo n c x11 = some (l', h', lo', n', c') ∧ Rep l' h' lo' n' c' (t ++ List.replicate m 0#8)
 | 0, l1, h, lo, n, c, t, hm, hs, r => by
  have hn := r.nn
  unfold pz at hm
  rw [eb, if_neg (by simp only [bne_iff_ne, ne_eq, Decidable.not_not]; omega)]
  exact ⟨_, _, _, _, _, rfl, by rw [List.replicate_zero, List.append_nil]; exact r⟩
 | m + 1, l1, h, lo, n, c, t, hm, hs, r => by
  have hn := r.nn
  unfold pz at hm
  obtain ⟨a1, a2, a3, a4, a5, w, r'⟩ := qr r [0#8] (by simp; omega)
  have hp : pz (t ++ [0#8]).length = m := by unfold pz; rw [List.length_append, List.length_singleton]; omega
  obtain ⟨b1, b2, b3, b4, b5, w2, r2⟩ := Gj x0 x1 x3 x4 x5 x6 x11 m a1 a2 a3 a4 a5 (t ++ [0#8]) hp.symm (by simp; omega) r'
  refine ⟨b1, b2, b3, b4, b5, ?_, ?_⟩
  ·rw [eb, if_pos (by simp only [bne_iff_ne, ne_eq]; omega), bind_some w]
   exact w2
  ·rw [List.append_assoc] at r2
   exact r2
def tK (n : Nat) : List B8 := (List.range 8).map fun i => BitVec.setWidth 8 ((BitVec.ofNat 64 n * 8#64) >>> (56 - 8 * i))
theorem Gk (x0 : List B8) (x1 : Nat → B8) (x2 : List B8) (x4 : Nat → W32) (x5 x6 : Nat) (x7 : BitVec 64) (x8 : Nat → W32) (x9 x10 : Nat) (x11 x12 : BitVec 64) : ∀ (m k : Nat) (x : Nat → B8), k + m = 8 → (∀ j, j < k → x j = BitVec.setWidth 8 (x12 >>> (56 - 8 * j))) → ∃ y, dC x0 x1 x2 x x4 x5 x6 x7 x8 x9 x10 x11 x12 (k : Int) = some y ∧ ∀ j, j < 8 → y j = BitVec.setWidth 8 (x12 >>> (56 - 8 * j))
 | 0, k, x, hk, hx => by
  rw [dC, iN (by omega)]
  exact ⟨x, rfl, fun j hj => hx j (by omega)⟩
 | m + 1, k, x, hk, hx => by
  have e1 : aF 56 ((8 * k : Nat) : Int) = ((56 - 8 * k : Nat) : Int) := by rw [io (by omega) (by omega)]; omega
  obtain ⟨y, q1, q2⟩ := Gk x0 x1 x2 x4 x5 x6 x7 x8 x9 x10 x11 x12 m (k + 1) (upd x k (BitVec.setWidth 8 (x12 >>> (56 - 8 * k)))) (by omega) (fun j hj => by
   by_cases e : j = k
   ·subst e; exact ig _ _ _
   ·rw [lF _ _ e]; exact hx j (by omega))
  refine ⟨y, ?_, q2⟩
  rw [dC, iP (by omega), I2 k (by omega), e1, iP (by omega), iP (by omega), iP (by omega), Int.toNat_natCast k, Int.toNat_natCast (56 - 8 * k), inc k (by omega)]
  exact q1
def yg (h : Nat → W32) (i : Nat) : B8 := BitVec.setWidth 8 (h (i / 4) >>> (24 - 8 * (i % 4)))
theorem D7 (x0 : List B8) (x1 : Nat → B8) (x3 : Nat → W32) (x4 x5 : Nat) (x6 : BitVec 64) (h : Nat → W32) (q : Nat) (hq : q < 8) (x10 : Int) : ∀ (m k : Nat) (x : Nat → B8), k + m = 4 → (∀ j, j < 4 * q + k → x j = yg h j) → ∃ y, cV x0 x1 x x3 x4 x5 x6 (q : Int) (h q) h x10 (k : Int) = some y ∧ ∀ j, j < 4 * (q + 1) → y j = yg h j
 | 0, k, x, hk, hx => by
  rw [cV, iN (by omega)]
  exact ⟨x, rfl, fun j hj => hx j (by omega)⟩
 | m + 1, k, x, hk, hx => by
  have e1 : aF 24 ((8 * k : Nat) : Int) = ((24 - 8 * k : Nat) : Int) := by rw [io (by omega) (by omega)]; omega
  have e2 : am ((4 * q : Nat) : Int) (k : Int) = ((4 * q + k : Nat) : Int) := by rw [gQ (by omega) (by omega)]; omega
  obtain ⟨y, q1, q2⟩ := D7 x0 x1 x3 x4 x5 x6 h q hq x10 m (k + 1) (upd x (4 * q + k) (BitVec.setWidth 8 (h q >>> (24 - 8 * k)))) (by omega) (fun j hj => by
   by_cases e : j = 4 * q + k
   ·subst e
    rw [ig]
    unfold yg
    rw [show (4 * q + k) / 4 = q by omega, show (4 * q + k) % 4 = k by omega]
   ·rw [lF _ _ e]; exact hx j (by omega))
  refine ⟨y, ?_, q2⟩
  rw [cV, iP (by omega), I2 k (by omega), e1, iP (by omega), Ht q (by omega), e2, iP (by omega), iP (by omega), Int.toNat_natCast (4 * q + k), Int.toNat_natCast (24 - 8 * k), inc k (by omega)]
  exact q1
theorem D8 (x0 : List B8) (x1 : Nat → B8) (x3 : Nat → W32) (x4 x5 : Nat) (x6 : BitVec 64) (h : Nat → W32) : ∀ (m q : Nat) (x : Nat → B8), q + m = 8 → (∀ j, j < 4 * q → x j = yg h j) → ∃ y, cW x0 x1 x x3 x4 x5 x6 h (q : Int) = some y ∧ ∀ j, j < 32 → y j = yg h j
 | 0, q, x, hq, hx => by
  rw [cW, iN (by omega)]
  exact ⟨x, rfl, fun j hj => hx j (by omega)⟩
 | m + 1, q, x, hq, hx => by
  obtain ⟨y, q1, q2⟩ := D7 x0 x1 x3 x4 x5 x6 h q (by omega) (q : Int) 4 0 x (by omega) hx
  obtain ⟨z, q3, q4⟩ := D8 x0 x1 x3 x4 x5 x6 h m (q + 1) y (by omega) q2
  refine ⟨z, ?_, q4⟩
  rw [cW, iP (by omega), iP (by omega), iP (by omega), Int.toNat_natCast q, bind_some (show cV x0 x1 x x3 x4 x5 x6 (q : Int) (h q) h (q : Int) 0 = _ from q1), inc q (by omega)]
  exact q3
def uP (t : List B8) : List B8 := ((t ++ [128#8]) ++ List.replicate (pz (t.length + 1)) 0#8) ++ tK t.length
def nL (t : List B8) (i : Nat) : B8 := if i < 32 then yg (blk H0 (uP t) ((uP t).length / 64)) i else 0#8
theorem Fg (v : Nat → B8) (n : Nat) (h : ∀ j, j < 8 → v j = BitVec.setWidth 8 ((BitVec.ofNat 64 n * 8#64) >>> (56 - 8 * j))) : AX v 0 8 = tK n := by
 unfold tK
 show [v 0, v 1, v 2, v 3, v 4, v 5, v 6, v 7] = _
 rw [h 0 (by omega), h 1 (by omega), h 2 (by omega), h 3 (by omega), h 4 (by omega), h 5 (by omega), h 6 (by omega), h 7 (by omega)]
 rfl
theorem It {l1 : List B8} {h : Nat → W32} {lo n : Nat} {c : BitVec 64} {t : List B8} (r : Rep l1 h lo n c t) (hs : t.length ≤ 80000000) : jj l1 h lo n c = some (nL t) := by
 have hn := r.nn
 have hl : (List.take n (List.drop lo l1)).length = n := by rw [r.left]; simp; omega
 have r0 : Rep (List.take n (List.drop lo l1)) h 0 (List.take n (List.drop lo l1)).length c t := by
  refine ⟨r.hh, ?_, ?_, ?_, r.cc⟩
  ·rw [List.drop_zero, List.take_length, r.left]
  ·rw [hl]; exact hn
  ·omega
 obtain ⟨a1, a2, a3, a4, a5, w, r1⟩ := qr r0 [128#8] (by simp; omega)
 have hp : pz (t ++ [128#8]).length ≤ 64 := by unfold pz; omega
 obtain ⟨b1, b2, b3, b4, b5, w2, r2⟩ := Gj l1 (fun _ => 0#8) h lo n c (c * 8#64) _ a1 a2 a3 a4 a5 (t ++ [128#8]) rfl (by simp at hp ⊢; omega) r1
 obtain ⟨y, w3, q3⟩ := Gk l1 (fun _ => 0#8) b1 h lo n c b2 b3 b4 b5 (c * 8#64) 8 0 (fun _ => 0#8) (by omega) (fun j hj => by omega)
 have ht : AX y 0 8 = tK t.length := Fg y _ (fun j hj => by rw [q3 j hj, r.cc])
 obtain ⟨d1, d2, d3, d4, d5, w4, r4⟩ := qr r2 (AX y 0 8) (by rw [ht]; simp [tK] at hp ⊢; omega)
 obtain ⟨z, w5, q5⟩ := D8 l1 (fun _ => 0#8) h lo n c d2 8 0 (fun _ => 0#8) (by omega) (fun j hj => by omega)
 unfold jj
 rw [if_pos (decide_eq_true r.fits), if_pos (fq (by simp; omega)), List.nil_append, bind_some w, bind_some w2, bind_some (show dC l1 _ b1 _ h lo n c b2 b3 b4 b5 (c * 8#64) 0 = _ from w3), bind_some w4, bind_some (show cW l1 _ (fun _ => 0#8) h lo n c d2 0 = _ from w5)]
 congr 1
 funext i
 unfold nL
 by_cases hi : i < 32
 ·rw [wF _ _ hi, if_pos hi, q5 i hi]
  have := r4.hh
  rw [ht, List.length_append, List.length_singleton] at this
  rw [this]
  rfl
 ·rw [if_neg hi]; unfold fN; rw [if_neg (by omega)]
theorem I4 (b : List B8) (hs : b.length ≤ 80000000) : Aq [b] = some (nL b) := by
 have r0 : Rep [] H0 0 0 0#64 [] := ⟨rfl, rfl, rfl, Nat.le_refl _, rfl⟩
 obtain ⟨a1, a2, a3, a4, a5, w, r1⟩ := qr r0 b (by simp; omega)
 rw [List.nil_append] at r1
 have hN : AE = some ([], H0, 0#64) := rfl
 have hl : iF (fun _ => 0#8) [] H0 0 0 0#64 [b] 1 0 = some (a1, a2, a3, a4, a5) := by
  rw [iF, if_pos (decide_eq_true (by decide)), if_pos (decide_eq_true (by decide)), if_pos (decide_eq_true (by simp))]
  show (d6 [] H0 0 0 0#64 b >>= _) = _
  rw [bind_some w, show am 0 1 = 1 by kernel_rfl, iF, if_neg (by decide)]
 unfold Aq
 rw [bind_some hN]
 show (iF (fun _ => 0#8) [] H0 0 0 0#64 [b] 1 0 >>= _) = _
 rw [bind_some hl, bind_some (It r1 hs)]
 congr 1
 funext i
 unfold fN nL
 by_cases hi : i < 32
 ·rw [if_pos (by omega), if_pos hi, Nat.sub_zero, if_pos hi]
 ·rw [if_neg (by omega), if_neg hi]
theorem B4 {p : ae} (hg : dI p) (hk : bM p = some (0, 0, 0)) : jY p = some (nL (jC p), 0) := by
 have hl := uO hg
 unfold jY
 rw [bind_some (Dd hg hk)]
 simp only []
 rw [if_neg (by decide), bind_some (I4 (jC p) (by omega))]
 congr 2
 funext i
 unfold fN nL
 by_cases hi : i < 32
 ·rw [if_pos (by omega), if_pos hi, Nat.sub_zero, if_pos hi]
 ·rw [if_neg (by omega), if_neg hi]
theorem D9 (a k : Nat) (h : a ≤ 1000000000000) (hk : 0 < k) : tP (a : Int) (k : Int) = ((a / k : Nat) : Int) := by
 have e : (a : Int).tdiv (k : Int) = ((a / k : Nat) : Int) := by rw [Int.tdiv_eq_ediv_of_nonneg (by omega)]; rfl
 unfold tP
 rw [e]
 have : a / k ≤ a := Nat.div_le_self _ _
 generalize a / k = q at *
 exact uT (by omega) (by omega)
theorem wH (a k : Nat) : pU (a : Int) (k : Int) = ((a % k : Nat) : Int) := by
 unfold pU
 rw [Int.tmod_eq_emod_of_nonneg (by omega)]
 rfl
theorem Ea : ∀ (k F n : Nat), n < 128 ^ (k + 1) → k < F → n < 4294967296 → fT F (n : Int) = some (cF n)
 | k, 0, n, h, hF, h2 => by omega
 | k, F + 1, n, h, hF, h2 => by
  show gK (fT F) (n : Int) = _
  unfold gK
  by_cases hn : n < 128
  ·rw [iP (by omega), wE hn, BitVec.ofInt_natCast]
  ·have e1 : tP (n : Int) 128 = ((n / 128 : Nat) : Int) := D9 n 128 (by omega) (by omega)
   have e2 : pU (n : Int) 128 = ((n % 128 : Nat) : Int) := wH n 128
   have e3 : am 128 ((n % 128 : Nat) : Int) = ((128 + n % 128 : Nat) : Int) := by rw [gQ (by omega) (by omega)]; omega
   match k with
   | 0 => exact absurd h (by simpa using hn)
   | k + 1 =>
    have ih := Ea k F (n / 128) (by rw [Nat.div_lt_iff_lt_mul (by omega)]; rw [Nat.pow_succ] at h; exact h) (by omega) (by omega)
    rw [iN (by omega), e1, bind_some ih, e2, e3, BitVec.ofInt_natCast, if_pos (fq (by have := bx (n := n / 128) (by omega); simp; omega)), AO hn]
    rfl
theorem nM (n : Int) (h0 : 0 ≤ n) (h : n < 4294967296) : eE n = some (cF n.toNat) := by
 have := Ea 4 1000 n.toNat (by omega) (by omega) (by omega)
 rw [Int.toNat_of_nonneg h0] at this
 exact this
theorem dV {n : Int} (h0 : 0 ≤ n) (h : n < 4294967296) : (cF n.toNat).length ≤ 5 := bx (by omega)
theorem Iu (p : ae) (a b c d : Int) (ha : 0 ≤ a ∧ a < 4294967296) (hb : 0 ≤ b ∧ b < 4294967296) (hc : 0 ≤ c ∧ c < 4294967296) (hd : 0 ≤ d ∧ d < 4294967296) : bq [97#8, 108#8, 112#8, 49#8] [a, b, c, d] p.globals p.locks p.slots p.funcs 0 = some ([97#8, 108#8, 112#8, 49#8] ++ cF a.toNat ++ cF b.toNat ++ cF c.toNat ++ cF d.toNat) := by
 have l1 := dV ha.1 ha.2
 have l2 := dV hb.1 hb.2
 have l3 := dV hc.1 hc.2
 have l4 := dV hd.1 hd.2
 have i0 : am 0 1 = 1 := by kernel_rfl
 have i1 : am 1 1 = 2 := by kernel_rfl
 have i2 : am 2 1 = 3 := by kernel_rfl
 have i3 : am 3 1 = 4 := by kernel_rfl
 rw [bq, if_pos (by decide), if_pos (by decide), if_pos (decide_eq_true (by simp)), show List.getD [a, b, c, d] (Int.toNat 0) 0 = a from rfl, bind_some (nM a ha.1 ha.2), if_pos (fq (by simp; omega)), i0]
 rw [bq, if_pos (by decide), if_pos (by decide), if_pos (decide_eq_true (by simp)), show List.getD [a, b, c, d] (Int.toNat 1) 0 = b from rfl, bind_some (nM b hb.1 hb.2), if_pos (fq (by simp; omega)), i1]
 rw [bq, if_pos (by decide), if_pos (by decide), if_pos (decide_eq_true (by simp)), show List.getD [a, b, c, d] (Int.toNat 2) 0 = c from rfl, bind_some (nM c hc.1 hc.2), if_pos (fq (by simp; omega)), i2]
 rw [bq, if_pos (by decide), if_pos (by decide), if_pos (decide_eq_true (by simp)), show List.getD [a, b, c, d] (Int.toNat 3) 0 = d from rfl, bind_some (nM d hd.1 hd.2), if_pos (fq (by simp; omega)), i3]
 rw [bq, if_neg (by decide)]
def Eb (s : ByteArray) (arg next alt : Int) : Nat → Nat → List B8
 | _, 0 => []
 | i, m + 1 => (if aW s i = 97#8 then cF arg.toNat else if aW s i = 110#8 then cF next.toNat else cF alt.toNat) ++ Eb s arg next alt (i + 1) m
theorem wI (p : ae) (x5 arg next alt x9 x10 : Int) (s : ByteArray) (hs : s.size ≤ 3) (h : ∀ i, i < s.size → if aW s i = 97#8 then 0 ≤ arg ∧ arg < 4294967296 else if aW s i = 110#8 then 0 ≤ next ∧ next < 4294967296 else 0 ≤ alt ∧ alt < 4294967296) : ∀ (m i : Nat) (b : List B8), i + m = s.size → b.length + 5 * m ≤ 1000000000 →
  bc b p.globals p.locks p.slots p.funcs x5 arg next alt x9 x10 s (i : Int) = some (b ++ Eb s arg next alt i m)
 | 0, i, b, hi, hb => by
  rw [bc, iN (by omega)]
  simp [Eb]
 | m + 1, i, b, hi, hb => by
  have hx := h i (by omega)
  rw [bc, iP (by omega), iP (by omega), iP (by omega), Int.toNat_natCast i, inc i (by omega)]
  unfold Eb
  by_cases h1 : aW s i = 97#8
  ·rw [if_pos h1] at hx
   have l1 := dV hx.1 hx.2
   rw [if_pos (by rw [h1]; rfl), if_pos h1, bind_some (nM _ hx.1 hx.2), if_pos (fq (by omega)), wI p x5 arg next alt x9 x10 s hs h m (i + 1) _ (by omega) (by simp; omega), List.append_assoc]
  ·rw [if_neg h1] at hx
   rw [if_neg (by simpa using h1), if_neg h1]
   by_cases h2 : aW s i = 110#8
   ·rw [if_pos h2] at hx
    have l1 := dV hx.1 hx.2
    rw [if_pos (by rw [h2]; rfl), if_pos h2, bind_some (nM _ hx.1 hx.2), if_pos (fq (by omega)), wI p x5 arg next alt x9 x10 s hs h m (i + 1) _ (by omega) (by simp; omega), List.append_assoc]
   ·rw [if_neg h2] at hx
    have l1 := dV hx.1 hx.2
    rw [if_neg (by simpa using h2), if_neg h2, bind_some (nM _ hx.1 hx.2), if_pos (fq (by omega)), wI p x5 arg next alt x9 x10 s hs h m (i + 1) _ (by omega) (by simp; omega), List.append_assoc]
def jW (k : Int) : ByteArray := if k = 9 then ByteArray.mk #[] else if k = 0 then ByteArray.mk #[110] else if k = 5 then ByteArray.mk #[97, 110, 120] else if k = 8 then ByteArray.mk #[110, 120] else ByteArray.mk #[97, 110]
theorem Hv (k : Int) : ii k = some (jW k) := by
 unfold ii jW
 by_cases h9 : k = 9
 ·rw [if_pos (eqT h9), if_pos h9]
 ·rw [if_neg (eqF h9), if_neg h9]
  by_cases h0 : k = 0
  ·rw [if_pos (eqT h0), if_pos h0]
  ·rw [if_neg (eqF h0), if_neg h0]
   by_cases h5 : k = 5
   ·rw [if_pos (eqT h5), if_pos h5]
   ·rw [if_neg (eqF h5), if_neg h5]
    by_cases h8 : k = 8
    ·rw [if_pos (eqT h8), if_pos h8]
    ·rw [if_neg (eqF h8), if_neg h8]
theorem Gl (p : ae) (x : ab) (h : Sm x) (x9 x10 : Int) (b : List B8) (hb : b.length ≤ 900000000) : bc (b ++ cF x.kind.toNat) p.globals p.locks p.slots p.funcs x.kind x.arg x.next x.alt x9 x10 (jW x.kind) 0 = some (b ++ ye x) := by
 have hk := h.1
 have lk := dV hk.1 (by omega)
 have hsz : (jW x.kind).size ≤ 3 := by unfold jW; split; decide; split; decide; split; decide; split <;> decide
 have key := wI p x.kind x.arg x.next x.alt x9 x10 (jW x.kind) hsz
 unfold ye
 rw [← List.append_assoc]
 have hr := h.2
 by_cases h9 : x.kind = 9
 ·rw [if_pos h9]
  have e : jW x.kind = ByteArray.mk #[] := by unfold jW; rw [if_pos h9]
  rw [e] at key ⊢
  exact key (fun i hi => absurd hi (by show ¬ i < 0; omega)) 0 0 _ rfl (by simp; omega)
 ·rw [if_neg h9]
  have hn := h.2.1 h9
  by_cases h0 : x.kind = 0
  ·rw [if_pos h0]
   have e : jW x.kind = ByteArray.mk #[110] := by unfold jW; rw [if_neg h9, if_pos h0]
   rw [e] at key ⊢
   have := key (fun i hi => by
    have : i = 0 := by have : i < 1 := hi; omega
    subst this
    exact ⟨by omega, by omega⟩) 1 0 (b ++ cF x.kind.toNat) rfl (by simp; omega)
   refine Eq.trans this ?_
   show some (_ ++ (cF x.next.toNat ++ [])) = _
   rw [List.append_nil]
  ·rw [if_neg h0]
   by_cases h8 : x.kind = 8
   ·rw [if_neg (show ¬ x.kind = 5 by omega), if_pos h8]
    have hal := h.2.2.2 (.inr h8)
    have e : jW x.kind = ByteArray.mk #[110, 120] := by unfold jW; rw [if_neg h9, if_neg h0, if_neg (show ¬ x.kind = 5 by omega), if_pos h8]
    rw [e] at key ⊢
    have := key (fun i hi => by
     have : i < 2 := hi
     match i, this with
     | 0, _ => exact ⟨by omega, by omega⟩
     | 1, _ => exact ⟨by omega, by omega⟩) 2 0 (b ++ cF x.kind.toNat) rfl (by simp; omega)
    refine Eq.trans this ?_
    show some (_ ++ (cF x.next.toNat ++ (cF x.alt.toNat ++ []))) = _
    rw [List.append_nil]
   ·have ha := h.2.2.1 h9 h0 h8
    by_cases h5 : x.kind = 5
    ·rw [if_pos h5]
     have hal := h.2.2.2 (.inl h5)
     have e : jW x.kind = ByteArray.mk #[97, 110, 120] := by unfold jW; rw [if_neg h9, if_neg h0, if_pos h5]
     rw [e] at key ⊢
     have := key (fun i hi => by
      have : i < 3 := hi
      match i, this with
      | 0, _ => exact ⟨by omega, by omega⟩
      | 1, _ => exact ⟨by omega, by omega⟩
      | 2, _ => exact ⟨by omega, by omega⟩) 3 0 (b ++ cF x.kind.toNat) rfl (by simp; omega)
     refine Eq.trans this ?_
     show some (_ ++ (cF x.arg.toNat ++ (cF x.next.toNat ++ (cF x.alt.toNat ++ [])))) = _
     rw [List.append_nil]
    ·rw [if_neg h5, if_neg h8]
     have e : jW x.kind = ByteArray.mk #[97, 110] := by unfold jW; rw [if_neg h9, if_neg h0, if_neg h5, if_neg h8]
     rw [e] at key ⊢
     have := key (fun i hi => by
      have : i < 2 := hi
      match i, this with
      | 0, _ => exact ⟨by omega, by omega⟩
      | 1, _ => exact ⟨by omega, by omega⟩) 2 0 (b ++ cF x.kind.toNat) rfl (by simp; omega)
     refine Eq.trans this ?_
     show some (_ ++ (cF x.arg.toNat ++ (cF x.next.toNat ++ []))) = _
     rw [List.append_nil]
theorem Ec (p : ae) (f : Nat) (hf : f < p.funcs.length) (hle : (List.getD p.funcs f []).length ≤ 65536) (h : ∀ i, i < (List.getD p.funcs f []).length → Sm (nde p f i)) : ∀ (m i : Nat) (b : List B8), i + m = (List.getD p.funcs f []).length → b.length + 20 * m ≤ 800000000 →
  bI b p.globals p.locks p.slots p.funcs (f : Int) (i : Int) = some (b ++ jK (List.getD p.funcs f []) i m)
 | 0, i, b, hi, hb => by
  rw [bI, iP (by omega), iP (by omega), Int.toNat_natCast f, iN (by omega)]
  simp [jK]
 | m + 1, i, b, hi, hb => by
  have hs := h i (by omega)
  have hk := hs.1
  have lk := dV hk.1 (by omega)
  have ln := uN hs
  rw [bI, iP (by omega), iP (by omega), Int.toNat_natCast f, iP (by omega), iP (by omega), iP (by omega), Int.toNat_natCast i, bind_some (nM _ hk.1 (by omega)), if_pos (fq (by omega)), bind_some (Hv _), bind_some (Gl p _ hs (f : Int) (i : Int) b (by omega)), inc i (by omega), Ec p f hf hle h m (i + 1) _ (by omega) (by rw [List.length_append]; omega)]
  simp [jK, List.append_assoc]
theorem Gm {p : ae} (hg : dI p) : ∀ (m f : Nat) (b : List B8), f + m = p.funcs.length → b.length + 1285 * m ≤ 100000000 →
  bZ b p.globals p.locks p.slots p.funcs (f : Int) = some (b ++ jL p.funcs f m)
 | 0, f, b, hf, hb => by
  rw [bZ, iN (by omega)]
  simp [jL]
 | m + 1, f, b, hf, hb => by
  have hle := hg.le f
  have lk := dV (n := ((List.getD p.funcs f []).length : Int)) (by omega) (by omega)
  have h12 := Ec p f (by omega) (by omega) (fun i hi => BZ hg (by omega) hi) (List.getD p.funcs f []).length 0 (b ++ cF (List.getD p.funcs f []).length) (by omega) (by rw [List.length_append]; rw [Int.toNat_natCast] at lk; omega)
  have hnl := nK (l := List.getD p.funcs f []) (fun i hi => BZ hg (by omega) hi) (List.getD p.funcs f []).length 0 (by omega)
  have hn := hg.funcs.2
  rw [bZ, iP (by omega), iP (by omega), iP (by omega), Int.toNat_natCast f, bind_some (nM _ (by omega) (by omega)), if_pos (fq (by omega)), bind_some (show bI (b ++ cF (Int.toNat ((List.getD p.funcs f []).length : Int))) p.globals p.locks p.slots p.funcs (f : Int) 0 = _ from h12), inc f (by omega), Gm hg m (f + 1) _ (by omega) (by rw [List.length_append, List.length_append]; rw [Int.toNat_natCast] at lk; omega)]
  simp [jL, List.append_assoc]
theorem Gn {p : ae} (hg : dI p) : gL p = some (jC p) := by
 have h1 := hg.globals
 have h2 := hg.locks
 have h3 := hg.slots
 have h4 := hg.funcs
 unfold gL
 have l1 := dV (n := p.globals) h1.1 (by omega)
 have l2 := dV (n := p.locks) h2.1 (by omega)
 have l3 := dV (n := p.slots) h3.1 (by omega)
 have l4 := dV (n := (p.funcs.length : Int)) (by omega) (by omega)
 rw [bind_some (Iu p p.globals p.locks p.slots (p.funcs.length : Int) ⟨h1.1, by omega⟩ ⟨h2.1, by omega⟩ ⟨h3.1, by omega⟩ ⟨by omega, by omega⟩)]
 have h8 := Gm hg p.funcs.length 0 ([97#8, 108#8, 112#8, 49#8] ++ cF p.globals.toNat ++ cF p.locks.toNat ++ cF p.slots.toNat ++ cF (p.funcs.length : Int).toNat) (by omega) (by simp at l4 ⊢; omega)
 rw [bind_some (show bZ _ p.globals p.locks p.slots p.funcs 0 = _ from h8)]
 unfold jC
 simp [List.append_assoc]
theorem zc (x : W32) (n : Nat) (h : n ≤ 32) : aQ x (n : Int) = some (ic x n) := by
 unfold aQ ic
 rw [show aF 32 (n : Int) = ((32 - n : Nat) : Int) from ka 32 n (by omega) h, iP (by omega), iP (by omega), Int.toNat_natCast, Int.toNat_natCast, BitVec.or_comm]
theorem Ed (x : W32) : aQ x 2 = some (ic x 2) ∧ aQ x 6 = some (ic x 6) ∧ aQ x 7 = some (ic x 7) ∧ aQ x 11 = some (ic x 11) ∧ aQ x 13 = some (ic x 13) ∧ aQ x 17 = some (ic x 17) ∧ aQ x 18 = some (ic x 18) ∧ aQ x 19 = some (ic x 19) ∧ aQ x 22 = some (ic x 22) ∧ aQ x 25 = some (ic x 25) :=
 ⟨zc x 2 (by omega), zc x 6 (by omega), zc x 7 (by omega), zc x 11 (by omega), zc x 13 (by omega), zc x 17 (by omega), zc x 18 (by omega), zc x 19 (by omega), zc x 22 (by omega), zc x 25 (by omega)⟩
theorem Ee (b : List B8) : ∀ (m : Nat) (l : List B8), m = pz l.length → l.length + m ≤ 90000000 → cr l b = some (l ++ List.replicate m 0#8)
 | 0, l, hm, hs => by
  unfold pz at hm
  rw [cr, show pU (l.length : Int) 64 = ((l.length % 64 : Nat) : Int) from wH _ 64, if_neg (by simp only [bne_iff_ne, ne_eq, Decidable.not_not]; omega)]
  simp
 | m + 1, l, hm, hs => by
  unfold pz at hm
  have hp : m = pz (l ++ [0#8]).length := by unfold pz; rw [List.length_append, List.length_singleton]; omega
  rw [cr, show pU (l.length : Int) 64 = ((l.length % 64 : Nat) : Int) from wH _ 64, if_pos (by simp only [bne_iff_ne, ne_eq]; omega), if_pos (fq (by simp; omega)), Ee b m (l ++ [0#8]) hp (by simp; omega), List.append_assoc]
  rfl
def tl (n : Nat) : Nat → List B8
 | 0 => []
 | k + 1 => BitVec.ofNat 8 (n / 256 ^ k % 256) :: tl n k
theorem Df (n : Nat) : ∀ k, (tl n k).length = k
 | 0 => rfl
 | k + 1 => by simp [tl, Df n k]
theorem Ef (x0 : List B8) (n : Nat) (hn : n ≤ 1000000000) : ∀ (m k : Nat), k + m = 8 → bJ x0 (tl n k) ((n / 256 ^ k : Nat) : Int) (k : Int) = some (tl n 8)
 | 0, k, hk => by
  have : k = 8 := by omega
  subst this
  rw [bJ, if_neg (by decide)]
 | m + 1, k, hk => by
  have hd : n / 256 ^ k ≤ n := Nat.div_le_self _ _
  have ih := Ef x0 n hn m (k + 1) (by omega)
  rw [bJ, iP (by omega), if_pos (fq (by rw [Df]; simp; omega)), show pU ((n / 256 ^ k : Nat) : Int) 256 = ((n / 256 ^ k % 256 : Nat) : Int) from wH _ 256, show tP ((n / 256 ^ k : Nat) : Int) 256 = ((n / 256 ^ k / 256 : Nat) : Int) from D9 _ 256 (by omega) (by omega), BitVec.ofInt_natCast, inc k (by omega), Nat.div_div_eq_div_mul, ← Nat.pow_succ]
  exact ih
theorem lg (len a : Nat) (h : len ≤ 100000000) : BitVec.ofNat 8 (8 * len / 2 ^ a % 256) = BitVec.setWidth 8 ((BitVec.ofNat 64 len * 8#64) >>> a) := by
 apply BitVec.eq_of_toNat_eq
 rw [BitVec.toNat_setWidth, BitVec.toNat_ushiftRight, BitVec.toNat_mul, BitVec.toNat_ofNat, BitVec.toNat_ofNat, BitVec.toNat_ofNat, Nat.shiftRight_eq_div_pow, show len % 2 ^ 64 * (8 % 2 ^ 64) % 2 ^ 64 = 8 * len by omega]
 omega
theorem Hw (len : Nat) (h : len ≤ 100000000) : tl (8 * len) 8 = tK len := by
 unfold tK
 show [BitVec.ofNat 8 (8 * len / 2 ^ 56 % 256), BitVec.ofNat 8 (8 * len / 2 ^ 48 % 256), BitVec.ofNat 8 (8 * len / 2 ^ 40 % 256), BitVec.ofNat 8 (8 * len / 2 ^ 32 % 256), BitVec.ofNat 8 (8 * len / 2 ^ 24 % 256), BitVec.ofNat 8 (8 * len / 2 ^ 16 % 256), BitVec.ofNat 8 (8 * len / 2 ^ 8 % 256), BitVec.ofNat 8 (8 * len / 2 ^ 0 % 256)] = _
 rw [lg _ _ h, lg _ _ h, lg _ _ h, lg _ _ h, lg _ _ h, lg _ _ h, lg _ _ h, lg _ _ h]
 rfl
theorem Dg (b : List B8) (h : b.length ≤ 80000000) : gq b = some (uP b) := by
 have hp : pz (b ++ [128#8]).length ≤ 64 := by unfold pz; omega
 have h3 := Ee b (pz (b ++ [128#8]).length) (b ++ [128#8]) rfl (by simp at hp ⊢; omega)
 have h8 := Ef ((b ++ [128#8]) ++ List.replicate (pz (b ++ [128#8]).length) 0#8) (8 * b.length) (by omega) 8 0 (by omega)
 unfold gq
 rw [if_pos (fq (by simp; omega)), List.nil_append, if_pos (fq (by simp; omega)), bind_some h3, show dM 8 (b.length : Int) = ((8 * b.length / 256 ^ 0 : Nat) : Int) by rw [Nat.pow_zero, Nat.div_one, wK (by omega) (by omega)]; omega, bind_some (show bJ _ [] _ 0 = _ from h8), if_pos (fq (by rw [Df]; simp at hp ⊢; omega)), Hw _ (by omega)]
 unfold uP
 rw [List.length_append, List.length_singleton]
theorem Gp (b : List B8) : (uP b).length % 64 = 0 := by
 have ht : (tK b.length).length = 8 := rfl
 unfold uP
 rw [List.length_append, List.length_append, List.length_append, List.length_replicate, List.length_singleton, ht]
 unfold pz
 omega
theorem Gq (a b c d : B8) : (((0#32 * 256#32 + BitVec.setWidth 32 a) * 256#32 + BitVec.setWidth 32 b) * 256#32 + BitVec.setWidth 32 c) * 256#32 + BitVec.setWidth 32 d = (((BitVec.setWidth 32 a <<< 24) ||| (BitVec.setWidth 32 b <<< 16)) ||| (BitVec.setWidth 32 c <<< 8)) ||| BitVec.setWidth 32 d := by
 have ha := a.isLt
 have hb := b.isLt
 have hc := c.isLt
 have hd := d.isLt
 have e : ∀ x y : Nat, y < 256 → x * 256 + y = x <<< 8 ||| y := fun x y hy => by
  rw [← Nat.shiftLeft_add_eq_or_of_lt (show y < 2 ^ 8 by omega), Nat.shiftLeft_eq]
 apply BitVec.eq_of_toNat_eq
 simp only [BitVec.toNat_or, BitVec.toNat_shiftLeft, BitVec.toNat_setWidth, BitVec.toNat_add, BitVec.toNat_mul, BitVec.toNat_ofNat]
 rw [Nat.mod_eq_of_lt (show a.toNat < 2 ^ 32 by omega), Nat.mod_eq_of_lt (show b.toNat < 2 ^ 32 by omega), Nat.mod_eq_of_lt (show c.toNat < 2 ^ 32 by omega), Nat.mod_eq_of_lt (show d.toNat < 2 ^ 32 by omega),
  Nat.mod_eq_of_lt (show a.toNat <<< 24 < 2 ^ 32 by rw [Nat.shiftLeft_eq]; omega), Nat.mod_eq_of_lt (show b.toNat <<< 16 < 2 ^ 32 by rw [Nat.shiftLeft_eq]; omega), Nat.mod_eq_of_lt (show c.toNat <<< 8 < 2 ^ 32 by rw [Nat.shiftLeft_eq]; omega)]
 have h1 : (((a.toNat * 256 + b.toNat) * 256 + c.toNat) * 256 + d.toNat) = a.toNat <<< 24 ||| b.toNat <<< 16 ||| c.toNat <<< 8 ||| d.toNat := by
  rw [e _ _ hd, e _ _ hc, e _ _ hb, Nat.shiftLeft_or_distrib, Nat.shiftLeft_or_distrib, Nat.shiftLeft_or_distrib, ← Nat.shiftLeft_add, ← Nat.shiftLeft_add, ← Nat.shiftLeft_add]
 rw [← h1]
 omega
abbrev tL (l : List B8) (j : Nat) : List B8 := List.take 64 (List.drop (64 * j) l)
theorem Fh (l : List B8) (j i : Nat) (hi : i < 64) : List.getD (tL l j) i 0#8 = List.getD l (64 * j + i) 0#8 := by
 simp [List.getD, List.getElem?_take, hi]
theorem Hx (x0 : Nat → B8) (x1 x2 : List W32) (l : List B8) (x4 : List W32) (j i : Nat) (hi : i < 16) (hj : 64 * j + 64 ≤ l.length) (hl : l.length ≤ 1000000000) : b9 x0 x1 x2 l x4 ((64 * j : Nat) : Int) (i : Int) 0#32 0 = some (pO (tL l j) i) := by
 have step : ∀ (k : Nat) (acc : W32), k < 4 → b9 x0 x1 x2 l x4 ((64 * j : Nat) : Int) (i : Int) acc (k : Int) = b9 x0 x1 x2 l x4 ((64 * j : Nat) : Int) (i : Int) (acc * 256#32 + BitVec.setWidth 32 (List.getD (tL l j) (4 * i + k) 0#8)) ((k + 1 : Nat) : Int) := fun k acc hk => by
  have e1 : am (am ((64 * j : Nat) : Int) (dM 4 (i : Int))) (k : Int) = ((64 * j + (4 * i + k) : Nat) : Int) := by
   have e0 : am ((64 * j : Nat) : Int) ((4 * i : Nat) : Int) = ((64 * j + 4 * i : Nat) : Int) := by rw [gQ (by omega) (by omega)]; omega
   rw [Ht i (by omega), e0, gQ (by omega) (by omega)]; omega
  rw [b9, iP (by omega), e1, iP (by omega), iP (by omega), Int.toNat_natCast, inc k (by omega), Fh l j _ (by omega)]
 have s0 := step 0 0#32 (by omega)
 rw [show ((0 : Nat) : Int) = 0 from rfl] at s0
 rw [s0, step 1 _ (by omega), step 2 _ (by omega), step 3 _ (by omega), b9, if_neg (by decide), Gq]
 rfl
theorem Gr (x0 : Nat → B8) (x1 x2 : List W32) (l : List B8) (j : Nat) (hj : 64 * j + 64 ≤ l.length) (hl : l.length ≤ 1000000000) : ∀ (m i : Nat) (t : List W32), i + m = 16 → t.length = i → (∀ k, k < i → List.getD t k 0#32 = pO (tL l j) k) → ∃ t', dG x0 x1 x2 l t ((64 * j : Nat) : Int) (i : Int) = some t' ∧ t'.length = 16 ∧ ∀ k, k < 16 → List.getD t' k 0#32 = pO (tL l j) k
 | 0, i, t, hi, h1, h2 => by
  rw [dG, iN (by omega)]
  exact ⟨t, rfl, by omega, fun k hk => h2 k (by omega)⟩
 | m + 1, i, t, hi, h1, h2 => by
  obtain ⟨t', q1, q2, q3⟩ := Gr x0 x1 x2 l j hj hl m (i + 1) (t ++ [pO (tL l j) i]) (by omega) (by simp [h1]) (fun k hk => by
   rw [jb]
   split
   ·rw [show k = i by omega]
   ·exact h2 k (by omega))
  refine ⟨t', ?_, q2, q3⟩
  rw [dG, iP (by omega), bind_some (Hx x0 x1 x2 l t j i (by omega) hj hl), if_pos (Nat.ble_eq_true_of_le (by simp only [List.length_singleton, az]; omega)), inc i (by omega)]
  exact q1
theorem B5 (x0 : Nat → B8) (x1 x2 : List W32) (l : List B8) (b : List B8) (x5 : Int) : ∀ (m k : Nat) (t : List W32), k + m = 48 → t.length = 16 + k → (∀ j, j < 16 + k → List.getD t j 0#32 = wN b k j) → ∃ t', da x0 x1 x2 l t x5 ((16 + k : Nat) : Int) = some t' ∧ t'.length = 64 ∧ ∀ j, j < 64 → List.getD t' j 0#32 = wN b 48 j
 | 0, k, t, hk, h1, h2 => by
  rw [da, iN (by omega)]
  have : k = 48 := by omega
  subst this
  exact ⟨t, rfl, by omega, fun j hj => h2 j (by omega)⟩
 | m + 1, k, t, hk, h1, h2 => by
  have e1 : aF ((16 + k : Nat) : Int) 15 = ((16 + k - 15 : Nat) : Int) := ka (16 + k) 15 (by omega) (by omega)
  have e2 : aF ((16 + k : Nat) : Int) 2 = ((16 + k - 2 : Nat) : Int) := ka (16 + k) 2 (by omega) (by omega)
  have e3 : aF ((16 + k : Nat) : Int) 16 = ((16 + k - 16 : Nat) : Int) := ka (16 + k) 16 (by omega) (by omega)
  have e4 : aF ((16 + k : Nat) : Int) 7 = ((16 + k - 7 : Nat) : Int) := ka (16 + k) 7 (by omega) (by omega)
  obtain ⟨t', q1, q2, q3⟩ := B5 x0 x1 x2 l b x5 m (k + 1) (t ++ [vA (wN b k) (16 + k)]) (by omega) (by simp [h1]; omega) (fun j hj => by
   show _ = upd (wN b k) (16 + k) (vA (wN b k) (16 + k)) j
   rw [jb]
   split
   ·rw [show j = 16 + k by omega, ig]
   ·rw [lF _ _ (by omega)]; exact h2 j (by omega))
  refine ⟨t', ?_, q2, q3⟩
  have r1 := Ed (List.getD t (16 + k - 15) 0#32)
  have r2 := Ed (List.getD t (16 + k - 2) 0#32)
  rw [da, iP (by omega), e1, iP (by omega), iP (by omega), e2, iP (by omega), iP (by omega), Int.toNat_natCast (16 + k - 15), Int.toNat_natCast (16 + k - 2), bind_some r1.2.2.1, bind_some r1.2.2.2.2.2.2.1, bind_some r2.2.2.2.2.2.1, bind_some r2.2.2.2.2.2.2.2.1, e3, iP (by omega), iP (by omega), e4, iP (by omega), iP (by omega), Int.toNat_natCast (16 + k - 16), Int.toNat_natCast (16 + k - 7), if_pos (Nat.ble_eq_true_of_le (by simp only [List.length_singleton, az]; omega)), inc (16 + k) (by omega), h2 _ (by omega), h2 _ (by omega), h2 _ (by omega), h2 _ (by omega)]
  exact q1
abbrev t8 (s : Nat → W32) : W32 × W32 × W32 × W32 × W32 × W32 × W32 × W32 := (s 0, s 1, s 2, s 3, s 4, s 5, s 6, s 7)
theorem Eg (x0 : Nat → B8) (K x2 : List W32) (l : List B8) (W : List W32) (x5 : Int) (w s : Nat → W32) (hK : K.length = 64) (hKt : ∀ j, j < 64 → List.getD K j 0#32 = ru j) (hW : W.length = 64) (hWt : ∀ j, j < 64 → List.getD W j 0#32 = w j) : ∀ (m k : Nat), k + m = 64 →
  db x0 K x2 l W x5 (rds w s k 0) (rds w s k 1) (rds w s k 2) (rds w s k 3) (rds w s k 4) (rds w s k 5) (rds w s k 6) (rds w s k 7) (k : Int) = some (t8 (rds w s 64))
 | 0, k, hk => by
  have : k = 64 := by omega
  subst this
  rw [db, if_neg (by decide)]
 | m + 1, k, hk => by
  have ih := Eg x0 K x2 l W x5 w s hK hKt hW hWt m (k + 1) (by omega)
  have r1 := Ed (rds w s k 4)
  have r2 := Ed (rds w s k 0)
  rw [db, iP (by omega), bind_some r1.2.1, bind_some r1.2.2.2.1, bind_some r1.2.2.2.2.2.2.2.2.2, iP (by omega), iP (by omega), iP (by omega), bind_some r2.1, bind_some r2.2.2.2.2.1, bind_some r2.2.2.2.2.2.2.2.2.1, Int.toNat_natCast k, inc k (by omega), hKt k (by omega), hWt k (by omega)]
  exact ih
abbrev h8 (h : Nat → W32) : List W32 := [h 0, h 1, h 2, h 3, h 4, h 5, h 6, h 7]
theorem Gs (x0 : Nat → B8) (K : List W32) (l : List B8) (h : Nat → W32) (hK : K.length = 64) (hKt : ∀ j, j < 64 → List.getD K j 0#32 = ru j) (hl : l.length ≤ 100000000) (h64 : l.length % 64 = 0) : ∀ (m j : Nat), j + m = l.length / 64 → dH x0 K (h8 (blk h l j)) l ((64 * j : Nat) : Int) = some (h8 (blk h l (l.length / 64)))
 | 0, j, hj => by
  rw [dH, iN (by omega), show j = l.length / 64 by omega]
 | m + 1, j, hj => by
  have ih := Gs x0 K l h hK hKt hl h64 m (j + 1) (by omega)
  obtain ⟨t, a1, a2, a3⟩ := Gr x0 K (h8 (blk h l j)) l j (by omega) (by omega) 16 0 [] (by omega) rfl (fun k hk => by omega)
  obtain ⟨W, b1, b2, b3⟩ := B5 x0 K (h8 (blk h l j)) l (tL l j) ((64 * j : Nat) : Int) 48 0 t (by omega) (by omega) (fun i hi => by
   rw [a3 i (by omega)]
   show _ = if i < 16 then pO (tL l j) i else 0#32
   rw [if_pos (by omega)])
  have r := Eg x0 K (h8 (blk h l j)) l W ((64 * j : Nat) : Int) (wN (tL l j) 48) (fN (fun _ => 0#32) 0 8 (blk h l j)) hK hKt b2 b3 64 0 (by omega)
  have e64 : am ((64 * j : Nat) : Int) 64 = ((64 * (j + 1) : Nat) : Int) := by rw [gQ (by omega) (by omega)]; omega
  have hlen : ((h8 (blk h l j)).length : Int) = 8 := rfl
  rw [dH, iP (by omega), bind_some (show dG x0 K (h8 (blk h l j)) l [] _ 0 = _ from a1), bind_some (show da x0 K (h8 (blk h l j)) l t _ 16 = _ from b1)]
  rw [hlen, if_pos (by decide), if_pos (by decide), if_pos (by decide), if_pos (by decide), if_pos (by decide), if_pos (by decide), if_pos (by decide), if_pos (by decide)]
  rw [bind_some (show db x0 K (h8 (blk h l j)) l W ((64 * j : Nat) : Int) (List.getD (h8 (blk h l j)) 0 0#32) (List.getD (h8 (blk h l j)) 1 0#32) (List.getD (h8 (blk h l j)) 2 0#32) (List.getD (h8 (blk h l j)) 3 0#32) (List.getD (h8 (blk h l j)) 4 0#32) (List.getD (h8 (blk h l j)) 5 0#32) (List.getD (h8 (blk h l j)) 6 0#32) (List.getD (h8 (blk h l j)) 7 0#32) 0 = _ from r), e64]
  exact ih
theorem I5 (y : W32) : BitVec.setWidth 8 (y % 256#32) = BitVec.setWidth 8 y := by
 apply BitVec.eq_of_toNat_eq
 simp only [BitVec.toNat_setWidth, BitVec.toNat_umod, BitVec.toNat_ofNat]
 rw [show 256 % 2 ^ 32 = 256 from rfl]
 omega
theorem I6 (v : W32) (a : Nat) : (v >>> a) / 256#32 = v >>> (a + 8) := by
 apply BitVec.eq_of_toNat_eq
 simp only [BitVec.toNat_udiv, BitVec.toNat_ushiftRight, BitVec.toNat_ofNat, Nat.shiftRight_eq_div_pow]
 rw [show 256 % 2 ^ 32 = 2 ^ 8 from rfl, Nat.div_div_eq_div_mul, ← Nat.pow_add]
theorem Eh (x0 : Nat → B8) (x1 : List W32) (h : Nat → W32) (q : Nat) (hq : q < 8) : ∀ (m k : Nat) (x : Nat → B8), k + m = 4 → (∀ j, j < 4 * q + 4 → (j < 4 * q ∨ 4 * q + (4 - k) ≤ j) → x j = yg h j) → ∃ y, dc x0 x1 x (q : Int) (h q >>> (8 * k)) (aF 3 (k : Int)) = some y ∧ ∀ j, j < 4 * (q + 1) → y j = yg h j
 | 0, k, x, hk, hx => by
  have : k = 4 := by omega
  subst this
  rw [dc, if_neg (by decide)]
  exact ⟨x, rfl, fun j hj => hx j (by omega) (by omega)⟩
 | m + 1, k, x, hk, hx => by
  have e1 : aF 3 (k : Int) = ((3 - k : Nat) : Int) := by rw [io (by omega) (by omega)]; omega
  have e2 : aF ((3 - k : Nat) : Int) 1 = aF 3 ((k + 1 : Nat) : Int) := by rw [io (by omega) (by omega), io (by omega) (by omega)]; omega
  have e3 : am (dM 4 (q : Int)) ((3 - k : Nat) : Int) = ((4 * q + (3 - k) : Nat) : Int) := by rw [Ht q (by omega), gQ (by omega) (by omega)]; omega
  obtain ⟨y, q1, q2⟩ := Eh x0 x1 h q hq m (k + 1) (upd x (4 * q + (3 - k)) (BitVec.setWidth 8 (h q >>> (8 * k)))) (by omega) (fun j hj hc => by
   by_cases e : j = 4 * q + (3 - k)
   ·subst e
    rw [ig]
    unfold yg
    rw [show (4 * q + (3 - k)) / 4 = q by omega, show 24 - 8 * ((4 * q + (3 - k)) % 4) = 8 * k by omega]
   ·rw [lF _ _ e]; exact hx j hj (by omega))
  refine ⟨y, ?_, q2⟩
  rw [e1, dc, iP (by omega), e3, iP (by omega), iP (by omega), Int.toNat_natCast, I5, I6, e2, show 8 * k + 8 = 8 * (k + 1) by omega]
  exact q1
theorem Ei (x0 : Nat → B8) (h : Nat → W32) : ∀ (m q : Nat) (x : Nat → B8), q + m = 8 → (∀ j, j < 4 * q → x j = yg h j) → ∃ y, dd x0 (h8 h) x (q : Int) = some y ∧ ∀ j, j < 32 → y j = yg h j
 | 0, q, x, hq, hx => by
  rw [dd, iN (by omega)]
  exact ⟨x, rfl, fun j hj => hx j (by omega)⟩
 | m + 1, q, x, hq, hx => by
  obtain ⟨y, q1, q2⟩ := Eh x0 (h8 h) h q (by omega) 4 0 x (by omega) (fun j hj hc => hx j (by omega))
  obtain ⟨z, q3, q4⟩ := Ei x0 h m (q + 1) y (by omega) q2
  refine ⟨z, ?_, q4⟩
  have hlen : ((h8 h).length : Int) = 8 := rfl
  have hget : List.getD (h8 h) q 0#32 = h q >>> (8 * 0) := by
   have : q < 8 := by omega
   have h0 : ∀ v : W32, v >>> (8 * 0) = v := fun v => by simp
   rw [h0]
   match q, this with
   | 0, _ => rfl | 1, _ => rfl | 2, _ => rfl | 3, _ => rfl | 4, _ => rfl | 5, _ => rfl | 6, _ => rfl | 7, _ => rfl
  rw [dd, iP (by omega), hlen, iP (by omega), iP (by omega), Int.toNat_natCast q, hget, bind_some (show dc x0 (h8 h) x (q : Int) (h q >>> (8 * 0)) 3 = _ from q1), inc q (by omega)]
  exact q3
def B6 : List W32 := (List.range 64).map ru
theorem Jo : fU HS = some B6 := kV 1000 _ _ (by kernel_rfl)
theorem Jp : fU HT = some (h8 H0) := kV 1000 _ _ (by kernel_rfl)
theorem Fi (j : Nat) (h : j < 64) : List.getD B6 j 0#32 = ru j := by
 unfold B6
 simp [List.getD, h]
theorem Iv (b : List B8) (h : b.length ≤ 70000000) : jl b = some (nL b) := by
 have hp : (uP b).length ≤ 80000000 := by
  have ht : (tK b.length).length = 8 := rfl
  unfold uP
  rw [List.length_append, List.length_append, List.length_append, List.length_replicate, List.length_singleton, ht]
  unfold pz
  omega
 have h5 := Gs (fun _ => 0#8) B6 (uP b) H0 rfl Fi (by omega) (Gp b) ((uP b).length / 64) 0 (by omega)
 obtain ⟨y, q1, q2⟩ := Ei (fun _ => 0#8) (blk H0 (uP b) ((uP b).length / 64)) 8 0 (fun _ => 0#8) (by omega) (fun j hj => by omega)
 unfold jl
 rw [bind_some Jo, bind_some Jp, bind_some (Dg b (by omega)), bind_some (show dH _ B6 (h8 H0) (uP b) 0 = _ from h5), bind_some (show dd _ _ _ 0 = _ from q1)]
 congr 1
 funext i
 unfold nL
 by_cases hi : i < 32
 ·rw [wF _ _ hi, if_pos hi, q2 i hi]
 ·rw [if_neg hi]; unfold fN; rw [if_neg (by omega)]
def acc (x : ab) : Bool := x.kind == 1 || x.kind == 2
def pP (j : ah) (w : Bool) (h l : W32) : Bool := if l = 0#32 then true else if j.kind = 1 then !w else if j.kind = 2 then Ha h j.lock else false
theorem zW (x : ab) : ju x = some (x.arg, x.kind == 2, acc x) := by
 unfold ju acc
 by_cases h : x.kind = 1
 ·rw [if_pos (eqT h), eqT h]; rfl
 ·rw [if_neg (eqF h), show (x.kind == 1) = false by simpa using h]; rfl
theorem zX (f g : Nat → B8) : ∀ l : List Nat, Ac (fun a b => ((BitVec.toNat a : Nat) : Int) == ((BitVec.toNat b : Nat) : Int)) f g l = true ↔ ∀ i ∈ l, f i = g i
 | [] => by simp [Ac]
 | i :: l => by
  show ((((BitVec.toNat (f i) : Nat) : Int) == ((BitVec.toNat (g i) : Nat) : Int)) && Ac _ f g l) = true ↔ _
  rw [Bool.and_eq_true, zX f g l, beq_iff_eq, Int.ofNat_inj, BitVec.toNat_inj]
  simp
theorem vB (f g : Nat → B8) : Ac (fun a b => ((BitVec.toNat a : Nat) : Int) == ((BitVec.toNat b : Nat) : Int)) f g (List.range 32) = true ↔ ∀ i, i < 32 → f i = g i := by
 rw [zX]; simp
instance sameDec (f g : Nat → B8) : Decidable (∀ i, i < 32 → f i = g i) := decidable_of_iff _ (vB f g)
abbrev l0 : List ac := [⟨0#32, 0#32, [0#32], 0#32, 0#32, [0#32]⟩]
theorem B7 (j : ah) (w : Bool) (h l : W32) : fb j w h l = some (pP j w h l) := by
 unfold fb pP
 by_cases h0 : l = 0#32
 ·rw [if_pos (by simpa using h0), if_pos h0]
 ·rw [if_neg (by simpa using h0), if_neg h0]
  by_cases h1 : j.kind = 1
  ·rw [if_pos (eqT h1), if_pos h1]
   cases w with
   | false => rfl
   | true => rw [if_neg (by decide), if_neg (eqF (show ¬ j.kind = 2 by omega))]; rfl
  ·rw [if_neg (eqF h1), if_neg h1]
   by_cases h2 : j.kind = 2
   ·rw [if_pos (eqT h2), if_pos h2, bind_some (show dQ h j.lock = some (Ha h j.lock) from qf _ _)]
   ·rw [if_neg (eqF h2), if_neg h2]
theorem Iw (x : ab) : jZ x = some (ofT x) := by
 unfold jZ ofT
 by_cases h : x.kind = 1
 ·rw [if_pos (eqT h), if_pos (.inl h), bind_some (nv _)]
 ·rw [if_neg (eqF h)]
  by_cases h2 : x.kind = 2
  ·rw [if_pos (eqT h2), if_pos (.inr h2), bind_some (nv _)]
  ·rw [if_neg (eqF h2), if_neg (fun h3 => h3.elim h h2)]
theorem yh (p : ae) (hg : dI p) (f : Nat) (hf : f < p.funcs.length) (x1 : List Int) (x7 x8 : Int) : ∀ (m i : Nat) (o : List W32), i + m = (List.getD p.funcs f []).length → o.length = p.funcs.length → ∃ o', cG o x1 p.globals p.locks p.slots p.funcs (f : Int) x7 x8 (List.getD p.funcs f []) ((List.getD p.funcs f []).length : Int) (i : Int) = some o' ∧ o'.length = p.funcs.length ∧ (∀ g, g ≠ f → List.getD o' g 0#32 = List.getD o g 0#32) ∧
  ∀ b, (List.getD o' f 0#32).getLsbD b = true ↔ (List.getD o f 0#32).getLsbD b = true ∨ ∃ j, i ≤ j ∧ j < (List.getD p.funcs f []).length ∧ (((List.getD (List.getD p.funcs f []) j aa).kind = 7 ∧ (List.getD o (List.getD (List.getD p.funcs f []) j aa).arg.toNat 0#32).getLsbD b = true) ∨ (ofT (List.getD (List.getD p.funcs f []) j aa)).getLsbD b = true)
 | 0, i, o, h, ho => by
  rw [cG, iN (by omega)]
  exact ⟨o, rfl, ho, fun g _ => rfl, fun b => ⟨.inl, fun h => h.elim (fun x => x) fun ⟨j, h1, h2, _⟩ => by omega⟩⟩
 | m + 1, i, o, h, ho => by
  have hle := hg.le f
  rw [cG, iP (by omega), iP (by omega), iP (by omega), Int.toNat_natCast i, inc i (by omega)]
  have fin : ∀ (y : W32), (∀ b, y.getLsbD b = true ↔ (((List.getD (List.getD p.funcs f []) i aa).kind = 7 ∧ (List.getD o (List.getD (List.getD p.funcs f []) i aa).arg.toNat 0#32).getLsbD b = true) ∨ (ofT (List.getD (List.getD p.funcs f []) i aa)).getLsbD b = true)) →
    ∃ o', cG (o.set f (List.getD o f 0#32 ||| y)) x1 p.globals p.locks p.slots p.funcs (f : Int) x7 x8 (List.getD p.funcs f []) ((List.getD p.funcs f []).length : Int) ((i + 1 : Nat) : Int) = some o' ∧ o'.length = p.funcs.length ∧ (∀ g, g ≠ f → List.getD o' g 0#32 = List.getD o g 0#32) ∧
    ∀ b, (List.getD o' f 0#32).getLsbD b = true ↔ (List.getD o f 0#32).getLsbD b = true ∨ ∃ j, i ≤ j ∧ j < (List.getD p.funcs f []).length ∧ (((List.getD (List.getD p.funcs f []) j aa).kind = 7 ∧ (List.getD o (List.getD (List.getD p.funcs f []) j aa).arg.toNat 0#32).getLsbD b = true) ∨ (ofT (List.getD (List.getD p.funcs f []) j aa)).getLsbD b = true) := by
   intro y hy
   obtain ⟨o', q1, q2, q3, q4⟩ := yh p hg f hf x1 x7 x8 m (i + 1) (o.set f (List.getD o f 0#32 ||| y)) (by omega) (by simpa using ho)
   refine ⟨o', q1, q2, fun g hgf => by rw [q3 g hgf, fg _ _ _ _ (by omega), if_neg hgf], fun b => ?_⟩
   rw [q4, fg _ _ _ _ (by omega), if_pos rfl, BitVec.getLsbD_or, Bool.or_eq_true, hy]
   have hsame : ∀ j, j < (List.getD p.funcs f []).length → (List.getD (List.getD p.funcs f []) j aa).kind = 7 → List.getD (o.set f (List.getD o f 0#32 ||| y)) (List.getD (List.getD p.funcs f []) j aa).arg.toNat 0#32 = List.getD o (List.getD (List.getD p.funcs f []) j aa).arg.toNat 0#32 := fun j hj hk => by
    rw [fg _ _ _ _ (by omega), if_neg]
    intro e
    have hc := hg.calls f j hf hj hk
    exact hg.acyc f j hf hj ⟨hk, f, by omega, .refl _⟩
   constructor
   ·rintro ((h1 | h1) | ⟨j, h1, h2, h3⟩)
    ·exact .inl h1
    ·exact .inr ⟨i, Nat.le_refl _, by omega, h1⟩
    ·refine .inr ⟨j, by omega, h2, h3.imp (fun h4 => ⟨h4.1, ?_⟩) fun x => x⟩
     rw [← hsame j h2 h4.1]; exact h4.2
   ·rintro (h1 | ⟨j, h1, h2, h3⟩)
    ·exact .inl (.inl h1)
    ·rcases Nat.eq_or_lt_of_le h1 with rfl | h5
     ·exact .inl (.inr h3)
     ·refine .inr ⟨j, h5, h2, h3.imp (fun h4 => ⟨h4.1, ?_⟩) fun x => x⟩
      rw [hsame j h2 h4.1]; exact h4.2
  by_cases hk : (List.getD (List.getD p.funcs f []) i aa).kind = 7
  ·have hc := hg.calls f i hf (by omega) hk
   rw [if_pos (eqT hk), iP (by omega), iP (by omega), if_pos (decide_eq_true hc.1), iP (by omega), Int.toNat_natCast f]
   exact fin _ fun b => by rw [IT hk]; simp only [hk, true_and, BitVec.getLsbD_zero, Bool.false_eq_true, or_false]
  ·rw [if_neg (eqF hk), iP (by omega), iP (by omega), bind_some (Iw _), Int.toNat_natCast f]
   exact fin _ fun b => by simp only [hk, false_and, false_or]
theorem yi (p : ae) (hg : dI p) (out : List Int) (ht : G9 p.funcs out) : ∀ (m k : Nat) (o : List W32), k + m = out.length → o.length = p.funcs.length → (∀ f : Nat, (f : Int) ∈ out.take k → ∀ b, (List.getD o f 0#32).getLsbD b = true ↔ May p.funcs ofT f b) → (∀ f : Nat, (f : Int) ∉ out.take k → List.getD o f 0#32 = 0#32) →
  ∃ o', ef o out p.globals p.locks p.slots p.funcs (out.length : Int) (k : Int) = some o' ∧ o'.length = p.funcs.length ∧ ∀ f : Nat, (f : Int) ∈ out → ∀ b, (List.getD o' f 0#32).getLsbD b = true ↔ May p.funcs ofT f b
 | 0, k, o, h, ho, h1, h2 => by
  rw [ef, iN (by omega)]
  rw [List.take_of_length_le (by omega)] at h1
  exact ⟨o, rfl, ho, h1⟩
 | m + 1, k, o, h, ho, h1, h2 => by
  have hn := hg.funcs.2
  have hol : out.length ≤ p.funcs.length := vj _ _ ht.nd ht.rng
  have hlt : k < out.length := by omega
  have hgk : List.getD out k 0 = out[k] := by simp [List.getD, hlt]
  have hr := ht.rng _ (List.getElem_mem hlt)
  obtain ⟨f, hf⟩ : ∃ f : Nat, out[k] = (f : Int) := ⟨out[k].toNat, by omega⟩
  rw [hf] at hr
  have hgk' := hgk.trans hf
  rw [ef, iP (by omega), iP (by omega), iP (by omega), Int.toNat_natCast k, hgk', iP (by omega), iP (by omega), Int.toNat_natCast f, inc k (by omega)]
  obtain ⟨o1, q1, q2, q3, q4⟩ := yh p hg f (by omega) out (out.length : Int) (k : Int) (List.getD p.funcs f []).length 0 o (by omega) ho
  rw [show ((0 : Nat) : Int) = 0 from rfl] at q1
  rw [bind_some q1]
  have htk : out.take (k + 1) = out.take k ++ [(f : Int)] := by rw [← List.take_append_getElem hlt, hf]
  have hnew : (f : Int) ∉ out.take k := fun hin => by
   obtain ⟨i, i1, i2, i3⟩ := lA hin
   have e1 : out[i] = out[k] := by
    rw [hf, ← i3]; simp [List.getD, i2]
   have := (List.getElem_inj ht.nd).1 e1
   omega
  refine yi p hg out ht m (k + 1) o1 (by omega) q2 (fun g hgm b => ?_) fun g hgm => ?_
  ·rw [htk, List.mem_append, List.mem_singleton] at hgm
   by_cases hgf : g = f
   ·subst hgf
    rw [q4, h2 g hnew]
    simp only [BitVec.getLsbD_zero, Bool.false_eq_true, false_or]
    constructor
    ·rintro ⟨j, _, j2, ⟨j3, j4⟩ | j3⟩
     ·have hc := hg.calls g j (by omega) j2 j3
      obtain ⟨c, hcc⟩ : ∃ c : Nat, (List.getD (List.getD p.funcs g []) j aa).arg = (c : Int) := ⟨_, (Int.toNat_of_nonneg hc.1).symm⟩
      rw [hcc, Int.toNat_natCast] at j4
      have e : Edge p.funcs g c := ⟨j, j2, j3, hcc⟩
      have hct := ht.top k hlt c (by rw [hgk', Int.toNat_natCast]; exact e)
      obtain ⟨x, hx1, hx2⟩ := (h1 c hct b).1 j4
      exact ⟨x, .step _ _ _ e hx1, hx2⟩
     ·exact ⟨g, .refl _, j, j2, j3⟩
    ·rintro ⟨x, hx1, hx2⟩
     cases hx1 with
     | refl _ => obtain ⟨j, j1, j2⟩ := hx2; exact ⟨j, Nat.zero_le _, j1, .inr j2⟩
     | step _ c _ e hp =>
      obtain ⟨j, j1, j2, j3⟩ := e
      have hct := ht.top k hlt c (by rw [hgk', Int.toNat_natCast]; exact ⟨j, j1, j2, j3⟩)
      refine ⟨j, Nat.zero_le _, j1, .inl ⟨j2, ?_⟩⟩
      rw [j3, Int.toNat_natCast]
      exact (h1 c hct b).2 ⟨x, hp, hx2⟩
   ·rw [q3 g hgf]
    exact h1 g (hgm.resolve_right (by omega)) b
  ·rw [htk, List.mem_append, List.mem_singleton, not_or] at hgm
   rw [q3 g (by omega)]
   exact h2 g hgm.1
theorem Dh (p : ae) (hg : dI p) (hk : bM p = some (0, 0, 0)) : ∃ o, jk p = some (0, o) ∧ o.length = p.funcs.length ∧ ∀ f, f < p.funcs.length → ∀ b, (List.getD o f 0#32).getLsbD b = true ↔ May p.funcs ofT f b := by
 have hn := hg.funcs.2
 obtain ⟨out, q1, q2⟩ := rO p hg hk
 unfold jk
 rw [bind_some q1, if_neg (show ¬ ((0 : Int) != 0) = true by decide), iP (by omega), if_pos (decide_eq_true (by simp only [az]; omega)), Int.toNat_natCast]
 obtain ⟨o, g1, g2, g3⟩ := yi p hg out q2 out.length 0 (List.replicate p.funcs.length 0#32) (by omega) (by simp) (fun f hf => by simp at hf) (fun f _ => by
  simp only [List.getD, List.getElem?_replicate]
  split <;> rfl)
 rw [show ((0 : Nat) : Int) = 0 from rfl] at g1
 rw [bind_some g1]
 exact ⟨o, rfl, g2, fun f hf => g3 f (q2.all f hf)⟩
theorem Di (p : ae) (hg : dI p) (hk : bM p = some (0, 0, 0)) : ∃ o, j5 p = some (0, o) ∧ o.length = p.funcs.length ∧ ∀ f, f < p.funcs.length → ∀ b, (List.getD o f 0#32).getLsbD b = true ↔ May p.funcs ofT f b := by
 obtain ⟨o, q1, q2⟩ := Dh p hg hk
 unfold j5
 rw [bind_some q1]
 exact ⟨o, rfl, q2⟩
def sg (x : ab) : W32 := if x.kind = 3 ∨ x.kind = 4 then one x.arg else 0#32
theorem Ix {x : ab} (h : x.kind = 7) : sg x = 0#32 := by unfold sg; rw [if_neg (by omega)]
theorem Hy (o : List W32) (f : Nat) (h : f < o.length) : o.set f (List.getD o f 0#32 ||| 0#32) = o := by
 apply List.ext_getElem
 ·simp
 ·intro i h1 h2
  rw [List.getElem_set]
  split
  ·rename_i e
   subst e
   simp [List.getD, h]
  ·rfl
theorem Ej (p : ae) (hg : dI p) (f : Nat) (hf : f < p.funcs.length) (x1 : List Int) (x7 x8 : Int) : ∀ (m i : Nat) (o : List W32), i + m = (List.getD p.funcs f []).length → o.length = p.funcs.length → ∃ o', dq o x1 p.globals p.locks p.slots p.funcs (f : Int) x7 x8 (List.getD p.funcs f []) ((List.getD p.funcs f []).length : Int) (i : Int) = some o' ∧ o'.length = p.funcs.length ∧ (∀ g, g ≠ f → List.getD o' g 0#32 = List.getD o g 0#32) ∧
  ∀ b, (List.getD o' f 0#32).getLsbD b = true ↔ (List.getD o f 0#32).getLsbD b = true ∨ ∃ j, i ≤ j ∧ j < (List.getD p.funcs f []).length ∧ (((List.getD (List.getD p.funcs f []) j aa).kind = 7 ∧ (List.getD o (List.getD (List.getD p.funcs f []) j aa).arg.toNat 0#32).getLsbD b = true) ∨ (sg (List.getD (List.getD p.funcs f []) j aa)).getLsbD b = true)
 | 0, i, o, h, ho => by
  rw [dq, iN (by omega)]
  exact ⟨o, rfl, ho, fun g _ => rfl, fun b => ⟨.inl, fun h => h.elim (fun x => x) fun ⟨j, h1, h2, _⟩ => by omega⟩⟩
 | m + 1, i, o, h, ho => by
  have hle := hg.le f
  rw [dq, iP (by omega), iP (by omega), iP (by omega), Int.toNat_natCast i, inc i (by omega)]
  have fin : ∀ (y : W32), (∀ b, y.getLsbD b = true ↔ (((List.getD (List.getD p.funcs f []) i aa).kind = 7 ∧ (List.getD o (List.getD (List.getD p.funcs f []) i aa).arg.toNat 0#32).getLsbD b = true) ∨ (sg (List.getD (List.getD p.funcs f []) i aa)).getLsbD b = true)) →
    ∃ o', dq (o.set f (List.getD o f 0#32 ||| y)) x1 p.globals p.locks p.slots p.funcs (f : Int) x7 x8 (List.getD p.funcs f []) ((List.getD p.funcs f []).length : Int) ((i + 1 : Nat) : Int) = some o' ∧ o'.length = p.funcs.length ∧ (∀ g, g ≠ f → List.getD o' g 0#32 = List.getD o g 0#32) ∧
    ∀ b, (List.getD o' f 0#32).getLsbD b = true ↔ (List.getD o f 0#32).getLsbD b = true ∨ ∃ j, i ≤ j ∧ j < (List.getD p.funcs f []).length ∧ (((List.getD (List.getD p.funcs f []) j aa).kind = 7 ∧ (List.getD o (List.getD (List.getD p.funcs f []) j aa).arg.toNat 0#32).getLsbD b = true) ∨ (sg (List.getD (List.getD p.funcs f []) j aa)).getLsbD b = true) := by
   intro y hy
   obtain ⟨o', q1, q2, q3, q4⟩ := Ej p hg f hf x1 x7 x8 m (i + 1) (o.set f (List.getD o f 0#32 ||| y)) (by omega) (by simpa using ho)
   refine ⟨o', q1, q2, fun g hgf => by rw [q3 g hgf, fg _ _ _ _ (by omega), if_neg hgf], fun b => ?_⟩
   rw [q4, fg _ _ _ _ (by omega), if_pos rfl, BitVec.getLsbD_or, Bool.or_eq_true, hy]
   have hsame : ∀ j, j < (List.getD p.funcs f []).length → (List.getD (List.getD p.funcs f []) j aa).kind = 7 → List.getD (o.set f (List.getD o f 0#32 ||| y)) (List.getD (List.getD p.funcs f []) j aa).arg.toNat 0#32 = List.getD o (List.getD (List.getD p.funcs f []) j aa).arg.toNat 0#32 := fun j hj hk => by
    rw [fg _ _ _ _ (by omega), if_neg]
    intro e
    have hc := hg.calls f j hf hj hk
    exact hg.acyc f j hf hj ⟨hk, f, by omega, .refl _⟩
   constructor
   ·rintro ((h1 | h1) | ⟨j, h1, h2, h3⟩)
    ·exact .inl h1
    ·exact .inr ⟨i, Nat.le_refl _, by omega, h1⟩
    ·refine .inr ⟨j, by omega, h2, h3.imp (fun h4 => ⟨h4.1, ?_⟩) fun x => x⟩
     rw [← hsame j h2 h4.1]; exact h4.2
   ·rintro (h1 | ⟨j, h1, h2, h3⟩)
    ·exact .inl (.inl h1)
    ·rcases Nat.eq_or_lt_of_le h1 with rfl | h5
     ·exact .inl (.inr h3)
     ·refine .inr ⟨j, h5, h2, h3.imp (fun h4 => ⟨h4.1, ?_⟩) fun x => x⟩
      rw [hsame j h2 h4.1]; exact h4.2
  by_cases h3 : (List.getD (List.getD p.funcs f []) i aa).kind = 3
  ·rw [if_pos (eqT h3), iP (by omega), iP (by omega), bind_some (nv _), Int.toNat_natCast f]
   exact fin _ fun b => by
    rw [show sg (List.getD (List.getD p.funcs f []) i aa) = one (List.getD (List.getD p.funcs f []) i aa).arg from if_pos (.inl h3)]
    exact ⟨.inr, fun h => h.elim (fun h => absurd (h3.symm.trans h.1) (by decide)) id⟩
  rw [if_neg (eqF h3)]
  by_cases h4 : (List.getD (List.getD p.funcs f []) i aa).kind = 4
  ·rw [if_pos (eqT h4), iP (by omega), iP (by omega), bind_some (nv _), Int.toNat_natCast f]
   exact fin _ fun b => by
    rw [show sg (List.getD (List.getD p.funcs f []) i aa) = one (List.getD (List.getD p.funcs f []) i aa).arg from if_pos (.inr h4)]
    exact ⟨.inr, fun h => h.elim (fun h => absurd (h4.symm.trans h.1) (by decide)) id⟩
  rw [if_neg (eqF h4)]
  by_cases hk : (List.getD (List.getD p.funcs f []) i aa).kind = 7
  ·have hc := hg.calls f i hf (by omega) hk
   rw [if_pos (eqT hk), iP (by omega), iP (by omega), if_pos (decide_eq_true hc.1), iP (by omega), Int.toNat_natCast f]
   exact fin _ fun b => by rw [Ix hk]; simp only [hk, true_and, BitVec.getLsbD_zero, Bool.false_eq_true, or_false]
  ·rw [if_neg (eqF hk)]
   have q := fin 0#32 fun b => by
    rw [show sg (List.getD (List.getD p.funcs f []) i aa) = 0#32 from if_neg (fun h => h.elim h3 h4)]
    simp only [hk, false_and, false_or]
   rw [Hy o f (by omega)] at q
   exact q
theorem Ek (p : ae) (hg : dI p) (out : List Int) (ht : G9 p.funcs out) : ∀ (m k : Nat) (o : List W32), k + m = out.length → o.length = p.funcs.length → (∀ f : Nat, (f : Int) ∈ out.take k → ∀ b, (List.getD o f 0#32).getLsbD b = true ↔ May p.funcs sg f b) → (∀ f : Nat, (f : Int) ∉ out.take k → List.getD o f 0#32 = 0#32) →
  ∃ o', fL o out p.globals p.locks p.slots p.funcs (out.length : Int) (k : Int) = some o' ∧ o'.length = p.funcs.length ∧ ∀ f : Nat, (f : Int) ∈ out → ∀ b, (List.getD o' f 0#32).getLsbD b = true ↔ May p.funcs sg f b
 | 0, k, o, h, ho, h1, h2 => by
  rw [fL, iN (by omega)]
  rw [List.take_of_length_le (by omega)] at h1
  exact ⟨o, rfl, ho, h1⟩
 | m + 1, k, o, h, ho, h1, h2 => by
  have hn := hg.funcs.2
  have hol : out.length ≤ p.funcs.length := vj _ _ ht.nd ht.rng
  have hlt : k < out.length := by omega
  have hgk : List.getD out k 0 = out[k] := by simp [List.getD, hlt]
  have hr := ht.rng _ (List.getElem_mem hlt)
  obtain ⟨f, hf⟩ : ∃ f : Nat, out[k] = (f : Int) := ⟨out[k].toNat, by omega⟩
  rw [hf] at hr
  have hgk' := hgk.trans hf
  rw [fL, iP (by omega), iP (by omega), iP (by omega), Int.toNat_natCast k, hgk', iP (by omega), iP (by omega), Int.toNat_natCast f, inc k (by omega)]
  obtain ⟨o1, q1, q2, q3, q4⟩ := Ej p hg f (by omega) out (out.length : Int) (k : Int) (List.getD p.funcs f []).length 0 o (by omega) ho
  rw [show ((0 : Nat) : Int) = 0 from rfl] at q1
  rw [bind_some q1]
  have htk : out.take (k + 1) = out.take k ++ [(f : Int)] := by rw [← List.take_append_getElem hlt, hf]
  have hnew : (f : Int) ∉ out.take k := fun hin => by
   obtain ⟨i, i1, i2, i3⟩ := lA hin
   have e1 : out[i] = out[k] := by
    rw [hf, ← i3]; simp [List.getD, i2]
   have := (List.getElem_inj ht.nd).1 e1
   omega
  refine Ek p hg out ht m (k + 1) o1 (by omega) q2 (fun g hgm b => ?_) fun g hgm => ?_
  ·rw [htk, List.mem_append, List.mem_singleton] at hgm
   by_cases hgf : g = f
   ·subst hgf
    rw [q4, h2 g hnew]
    simp only [BitVec.getLsbD_zero, Bool.false_eq_true, false_or]
    constructor
    ·rintro ⟨j, _, j2, ⟨j3, j4⟩ | j3⟩
     ·have hc := hg.calls g j (by omega) j2 j3
      obtain ⟨c, hcc⟩ : ∃ c : Nat, (List.getD (List.getD p.funcs g []) j aa).arg = (c : Int) := ⟨_, (Int.toNat_of_nonneg hc.1).symm⟩
      rw [hcc, Int.toNat_natCast] at j4
      have e : Edge p.funcs g c := ⟨j, j2, j3, hcc⟩
      have hct := ht.top k hlt c (by rw [hgk', Int.toNat_natCast]; exact e)
      obtain ⟨x, hx1, hx2⟩ := (h1 c hct b).1 j4
      exact ⟨x, .step _ _ _ e hx1, hx2⟩
     ·exact ⟨g, .refl _, j, j2, j3⟩
    ·rintro ⟨x, hx1, hx2⟩
     cases hx1 with
     | refl _ => obtain ⟨j, j1, j2⟩ := hx2; exact ⟨j, Nat.zero_le _, j1, .inr j2⟩
     | step _ c _ e hp =>
      obtain ⟨j, j1, j2, j3⟩ := e
      have hct := ht.top k hlt c (by rw [hgk', Int.toNat_natCast]; exact ⟨j, j1, j2, j3⟩)
      refine ⟨j, Nat.zero_le _, j1, .inl ⟨j2, ?_⟩⟩
      rw [j3, Int.toNat_natCast]
      exact (h1 c hct b).2 ⟨x, hp, hx2⟩
   ·rw [q3 g hgf]
    exact h1 g (hgm.resolve_right (by omega)) b
  ·rw [htk, List.mem_append, List.mem_singleton, not_or] at hgm
   rw [q3 g (by omega)]
   exact h2 g hgm.1
end Go.Bm.GoYtipjbmnfnmlkfaaDoor
