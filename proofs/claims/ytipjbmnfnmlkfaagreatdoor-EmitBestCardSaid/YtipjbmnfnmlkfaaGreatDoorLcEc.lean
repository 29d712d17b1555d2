import Derived.Test.YtipjbmnfnmlkfaaGreatDoorLcEb
namespace Go.Bm.GoYtipjbmnfnmlkfaaGreatDoor
set_option autoImplicit false
set_option linter.unusedVariables false
set_option linter.unusedSimpArgs false
set_option maxRecDepth 100000
def okJ (p : ac) (l : List ab) (g : Int) (j : ah) : Bool := !iT (fun f => iT (xy p l g j f) 0 (List.getD p.funcs f []).length) 0 p.funcs.length
theorem mG {p : ac} {l : List ab} {g : Int} {j : ah} : okJ p l g j = true ↔ ∀ f i, f < p.funcs.length → i < (List.getD p.funcs f []).length → xy p l g j f i = false := by
 unfold okJ
 rw [Bool.not_eq_true', ← Bool.not_eq_true, jk]
 constructor
 ·intro h f i hf hi
  cases hb : xy p l g j f i with
  | false => rfl
  | true => exact absurd ⟨f, Nat.zero_le _, (by omega : f < 0 + p.funcs.length), jk.2 ⟨i, Nat.zero_le _, (by omega : i < 0 + _), hb⟩⟩ h
 ·rintro h ⟨f, _, hf, h2⟩
  obtain ⟨i, _, hi, h3⟩ := jk.1 h2
  rw [h f i (by omega) (by omega)] at h3
  cases h3
def tr (k : Nat) : ah := if k = 0 then ⟨0, 0⟩ else if k = 1 then ⟨1, 0⟩ else ⟨2, ((k - 2 : Nat) : Int)⟩
def gA (p : ac) (l : List ab) (g : Int) : Option Nat := jG (fun k => okJ p l g (tr k)) 0 (2 + p.locks.toNat)
theorem Ee (p : ac) (l : List ab) (g : Int) (f i : Nat) : xy p l g (tr 0) f i = iq p l g f i := by
 unfold xy iq ip tr
 by_cases h : liv l f i = 0#32
 ·rw [if_pos h, show (liv l f i == 0#32) = true by simpa using h]
 ·rw [if_neg h, show (liv l f i == 0#32) = false by simpa using h]; rfl
theorem Ef (p : ac) (l : List ab) (g : Int) (f i : Nat) : xy p l g (tr 1) f i = nwB p l g f i := by
 unfold xy nwB iq ip tr
 by_cases h : liv l f i = 0#32
 ·rw [if_pos h, show (liv l f i == 0#32) = true by simpa using h]; simp
 ·rw [if_neg h, show (liv l f i == 0#32) = false by simpa using h]
  simp
theorem Eg (p : ac) (l : List ab) (g : Int) (f i k : Nat) (hk : k < 32) : xy p l g (tr (k + 2)) f i = (iq p l g f i && !(hld l f i).getLsbD k) := by
 have e : tr (k + 2) = ⟨2, (k : Int)⟩ := by unfold tr; rw [if_neg (by omega), if_neg (by omega)]; rfl
 rw [e]
 unfold xy iq ip
 by_cases h : liv l f i = 0#32
 ·rw [if_pos h, show (liv l f i == 0#32) = true by simpa using h]; simp
 ·rw [if_neg h, show (liv l f i == 0#32) = false by simpa using h, if_neg (show ¬ (2 : Int) = 1 by decide), if_pos (show (2 : Int) = 2 from rfl), FT _ hk]
  simp
theorem Eh (p : ac) (hg : a9 p) (l : List ab) (hs : Shp p l) (g : Int) : fZ p l g = some (match gA p l g with | some k => (tr k, true) | none => (⟨0, 0⟩, false)) := by
 have hn := hg.funcs.2
 have hlk := hg.locks
 have hl := hs.1
 have hlen := EE p hg l g p.funcs.length 0
 have h4 := Cd p hg l hs g p.funcs.length 0 [] false (by omega) (by simp; omega)
 rw [List.nil_append, Bool.false_or] at h4
 obtain ⟨y, y1, y2⟩ := HP (nlF p l g 0 p.funcs.length) (by omega)
 have hmem := fun z => ED p l g z p.funcs.length 0
 have hneeds : ln p l g = some (y, decide (((nlF p l g 0 p.funcs.length).length : Int) > 0), iT (fun f => iT (nwB p l g f) 0 (List.getD p.funcs f []).length) 0 p.funcs.length) := by
  unfold ln
  rw [show (if (l.length : Int) < (p.funcs.length : Int) then (l.length : Int) else (p.funcs.length : Int)) = (p.funcs.length : Int) by split <;> omega, bind_some (show dB [] p.globals p.locks p.slots p.funcs l g false _ 0 = _ from h4), bind_some y1]
 have hall : gz p.locks = some (FX p.locks.toNat) := by
  have := Ho p.locks.toNat (by omega)
  rw [Int.toNat_of_nonneg hlk.1] at this
  exact this
 unfold fZ gA
 rw [bind_some hneeds, bind_some hall]
 dsimp only
 by_cases hnone : nlF p l g 0 p.funcs.length = []
 ·have hno : ∀ f i, f < p.funcs.length → i < (List.getD p.funcs f []).length → iq p l g f i = false := fun f i hf hi => by
   cases hb : iq p l g f i with
   | false => rfl
   | true =>
    have := (hmem (hld l f i)).2 ⟨f, Nat.zero_le _, by omega, i, hi, hb, rfl⟩
    rw [hnone] at this
    cases this
  rw [hnone, if_pos (by decide), vc (k := 0) (Nat.le_refl _) (by omega) (mG.2 fun f i hf hi => (Ee p l g f i).trans (hno f i hf hi)) (fun j h1 h2 => by omega)]
  rfl
 ·have hpos : 0 < (nlF p l g 0 p.funcs.length).length := List.length_pos_iff.2 hnone
  obtain ⟨z, hz⟩ := List.exists_mem_of_length_pos hpos
  obtain ⟨f0, _, hf0, i0, hi0, hb0, _⟩ := (hmem z).1 hz
  have q0 : okJ p l g (tr 0) = false := by
   rw [← Bool.not_eq_true, mG]
   intro h
   have := (Ee p l g f0 i0).symm.trans (h f0 i0 (by omega) hi0)
   rw [hb0] at this
   cases this
  rw [if_neg (by simp; omega)]
  cases hw : iT (fun f => iT (nwB p l g f) 0 (List.getD p.funcs f []).length) 0 p.funcs.length with
  | false =>
   have q1 : okJ p l g (tr 1) = true := mG.2 fun f i hf hi => by
    rw [Ef]
    cases hb : nwB p l g f i with
    | false => rfl
    | true =>
     have a1 : iT (nwB p l g f) 0 (List.getD p.funcs f []).length = true := jk.2 ⟨i, Nat.zero_le _, by omega, hb⟩
     have a2 : iT (fun f => iT (nwB p l g f) 0 (List.getD p.funcs f []).length) 0 p.funcs.length = true := jk.2 ⟨f, Nat.zero_le _, by omega, a1⟩
     rw [hw] at a2
     cases a2
   rw [if_pos (by decide), vc (k := 1) (by omega) (by omega) q1 (fun j h1 h2 => by
    have : j = 0 := by omega
    subst this
    exact q0)]
   rfl
  | true =>
   obtain ⟨f1, _, hf1, h1⟩ := jk.1 hw
   obtain ⟨i1, _, hi1, hb1⟩ := jk.1 h1
   have q1 : okJ p l g (tr 1) = false := by
    rw [← Bool.not_eq_true, mG]
    intro h
    have := (Ef p l g f1 i1).symm.trans (h f1 i1 (by omega) (by omega))
    rw [hb1] at this
    cases this
   have q2 : ∀ k, k < 32 → (okJ p l g (tr (k + 2)) = true ↔ y.getLsbD k = true) := fun k hk => by
    rw [mG, y2 k hk]
    constructor
    ·intro h z hz
     obtain ⟨f, _, hf, i, hi, hb, rfl⟩ := (hmem z).1 hz
     have := h f i (by omega) hi
     rw [Eg p l g f i k hk, hb] at this
     simpa using this
    ·intro h f i hf hi
     rw [Eg p l g f i k hk]
     cases hb : iq p l g f i with
     | false => rfl
     | true =>
      rw [h _ ((hmem _).2 ⟨f, Nat.zero_le _, by omega, i, hi, hb, rfl⟩)]
      rfl
   have low : ∀ j, j < 2 → okJ p l g (tr j) = false := fun j hj => by
    match j, hj with
    | 0, _ => exact q0
    | 1, _ => exact q1
   rw [if_neg (by decide)]
   by_cases hz0 : y &&& FX p.locks.toNat = 0#32
   ·rw [if_neg (by simpa using hz0), EC fun j _ hj => by
     rcases Nat.lt_or_ge j 2 with h | h
     ·exact low j h
     ·obtain ⟨k, rfl⟩ : ∃ k, j = k + 2 := ⟨j - 2, by omega⟩
      rw [← Bool.not_eq_true, q2 k (by omega)]
      intro hb
      have h2 := congrArg (fun v => BitVec.getLsbD v k) hz0
      simp only [BitVec.getLsbD_and, hb, (vN (n := p.locks.toNat) (by omega) k).2 (by omega), BitVec.getLsbD_zero] at h2
      cases h2]
   ·obtain ⟨k, hk⟩ := Iw hz0
    have hkb := hk.2.1
    rw [BitVec.getLsbD_and, Bool.and_eq_true, vN (by omega)] at hkb
    rw [if_pos (by simpa using hz0), bind_some (E9 hk), vc (k := k + 2) (Nat.zero_le _) (by omega) ((q2 k hk.1).2 hkb.1) (fun j _ hj => by
     rcases Nat.lt_or_ge j 2 with h | h
     ·exact low j h
     ·obtain ⟨i, rfl⟩ : ∃ i, j = i + 2 := ⟨j - 2, by omega⟩
      rw [← Bool.not_eq_true, q2 i (by omega)]
      intro hb
      exact hk.2.2 i (by omega) (by rw [BitVec.getLsbD_and, hb, (vN (n := p.locks.toNat) (by omega) i).2 (by omega)]; rfl))]
    dsimp only
    rw [show tr (k + 2) = ⟨2, (k : Int)⟩ by unfold tr; rw [if_neg (by omega), if_neg (by omega)]; rfl]
def pK (p : ac) (l : List ab) : Nat → Nat → List ah
 | _, 0 => []
 | g, m + 1 => tr ((gA p l (g : Int)).getD 0) :: pK p l (g + 1) m
theorem wL (p : ac) (l : List ab) : ∀ (m g j : Nat), j < m → List.getD (pK p l g m) j am = tr ((gA p l ((g + j : Nat) : Int)).getD 0)
 | 0, g, j, h => by omega
 | m + 1, g, 0, h => rfl
 | m + 1, g, j + 1, h => by
  have := wL p l m (g + 1) j (by omega)
  rw [show g + 1 + j = g + (j + 1) by omega] at this
  exact this
theorem An (p : ac) (l : List ab) : ∀ (m g : Nat), (pK p l g m).length = m
 | 0, _ => rfl
 | m + 1, g => by simp [pK, An p l m (g + 1)]
theorem wM {p : ac} (hg : a9 p) (l : List ab) (h : ∀ k, k < p.globals.toNat → gA p l (k : Int) ≠ none) : (fp p l (pK p l 0 p.globals.toNat)).what = 0 := by
 have hlk := hg.locks
 have hgl := hg.globals
 have best : ∀ k, k < p.globals.toNat → ∃ t, gA p l (k : Int) = some t ∧ t < 2 + p.locks.toNat ∧ okJ p l (k : Int) (tr t) = true := fun k hk => by
  cases hb : gA p l (k : Int) with
  | none => exact absurd hb (h k hk)
  | some t =>
   have := yS (show jG _ 0 _ = some t from hb)
   exact ⟨t, rfl, by omega, this.2.2⟩
 refine Ca.2 ⟨fun i hi => ?_, fun f i hf hi => ?_⟩
 ·rw [An] at hi
  obtain ⟨t, t1, t2, t3⟩ := best i hi
  rw [wL p l _ 0 i hi, Nat.zero_add, t1]
  show lC (tr t) p.locks = true
  unfold tr
  split
  ·rfl
  ·split
   ·rfl
   ·show (if (2 : Int) = 2 then _ else _) = true
    rw [if_pos rfl, Bool.and_eq_true, decide_eq_true_iff, decide_eq_true_iff]
    constructor
    ·show (0 : Int) ≤ ((t - 2 : Nat) : Int); omega
    ·show ((t - 2 : Nat) : Int) < p.locks; omega
 ·unfold grd
  cases ha : acc (nde p f i) with
  | false => rfl
  | true =>
   have hgb := (hg.node f i hf hi).glob (by simpa [acc] using ha)
   have hgb : 0 ≤ (nde p f i).arg ∧ (nde p f i).arg < p.globals := hgb
   obtain ⟨t, t1, t2, t3⟩ := best (nde p f i).arg.toNat (by omega)
   have h2 := mG.1 t3 f i hf hi
   have ej : jus (pK p l 0 p.globals.toNat) (nde p f i).arg = tr t := by
    show List.getD _ (nde p f i).arg.toNat am = _
    rw [wL p l _ 0 _ (by omega), Nat.zero_add, t1]; rfl
   rw [ej]
   unfold xy at h2
   rw [ha, show ((nde p f i).arg == ((nde p f i).arg.toNat : Int)) = true by rw [beq_iff_eq]; omega] at h2
   simpa using h2
structure Fi (p : ac) (u : List W32) (fm bg : W32) (l : List ab) : Prop where
 shp : Shp p l
 fine : CP p l u fm
 fineL : vL p l bg
 best : ∀ c, Shp p c → CP p c u fm → ∀ f i, f < p.funcs.length → i < (List.getD p.funcs f []).length → sub (uK p &&& hld c f i) (hld l f i)
 least : ∀ c, Shp p c → vL p c bg → ∀ f i, f < p.funcs.length → i < (List.getD p.funcs f []).length → sub (liv l f i) (liv c f i)
abbrev HA (a b : ab) : ab := ⟨a.entry, a.exit, a.held, b.liveEntry, b.liveExit, b.live⟩
theorem Ei {p : ac} (hg : a9 p) {u : List W32} {fm bg : W32} {v w : List W32} {t m l : List ab}
  (t2 : Gfp (fB p u fm 0 p.funcs.length) (List.replicate (base p.funcs p.funcs.length) (uK p)) v) (t3 : v.length = base p.funcs p.funcs.length) (t4 : t.length = p.funcs.length) (t5 : ∀ g, g < p.funcs.length → BV p v g (sec t g))
  (m2 : Lfp (eT p bg 0 p.funcs.length) (List.replicate (base p.funcs p.funcs.length) 0#32) w) (m3 : w.length = base p.funcs p.funcs.length) (m4 : m.length = p.funcs.length) (m5 : ∀ g, g < p.funcs.length → xu p w g (sec m g))
  (hl : l.length = p.funcs.length) (hm : ∀ f, f < p.funcs.length → sec l f = HA (sec t f) (sec m f)) : Fi p u fm bg l := by
 obtain ⟨hL, hS⟩ := Df t3 t4 t5
 obtain ⟨hL2, hS2⟩ := BZ m3 m4 m5
 have hk : jE (fB p u fm 0 p.funcs.length) (base p.funcs p.funcs.length) v := by
  have := t2.keeps
  rw [List.length_replicate] at this
  exact this
 have hk2 : lB (eT p bg 0 p.funcs.length) (base p.funcs p.funcs.length) w := by
  have := m2.keeps
  rw [List.length_replicate] at this
  exact this
 have eh : ∀ f i, f < p.funcs.length → hld l f i = hld t f i := fun f i hf => by
  show List.getD (sec l f).held i 0#32 = _
  rw [hm f hf]
 have el : ∀ f i, f < p.funcs.length → liv l f i = liv m f i := fun f i hf => by
  show List.getD (sec l f).live i 0#32 = _
  rw [hm f hf]
 have lay : Dd p l v := ⟨t3, fun f hf => by rw [hL.ent f hf, hm f hf], fun f hf => by rw [hL.exi f hf, hm f hf], fun f i hf hi => by rw [hL.nod f i hf hi, eh f i hf]⟩
 have layL : xp p l w := ⟨m3, fun f hf => by rw [hL2.ent f hf, hm f hf], fun f hf => by rw [hL2.exi f hf, hm f hf], fun f i hf hi => by rw [hL2.nod f i hf hi, el f i hf]⟩
 refine ⟨⟨hl, fun f hf => by rw [hm f hf]; exact ⟨(hS.2 f hf).1, (hS2.2 f hf).2⟩⟩, (zv hg lay).1 hk, (xq hg layL).1 hk2, fun c hc hf f i hfl hi => ?_, fun c hc hf f i hfl hi => ?_⟩
 ·obtain ⟨z, z1⟩ := HK p c hc
  have := HL t2 z1.len ((zv hg z1).2 hf) ((base p.funcs f + 2 + i : Nat) : Int)
  rw [z1.nod f i hfl hi, lay.nod f i hfl hi] at this
  exact this
 ·obtain ⟨z, z1⟩ := Gy p c hc
  have := Gz m2 ((xq hg z1).2 hf) ((base p.funcs f + 2 + i : Nat) : Int)
  rw [z1.nod f i hfl hi, layL.nod f i hfl hi] at this
  exact this
theorem wO (l : List ab) (i : Nat) (s : ab) (hi : i < l.length) (j : Nat) : sec (l.set i s) j = if j = i then s else sec l j := by
 by_cases e : j = i
 ·subst e; rw [if_pos rfl]; simp [sec, List.getD, hi]
 ·have : i ≠ j := fun h => e h.symm
  rw [if_neg e]
  simp [sec, List.getD, List.getElem?_set, this]
abbrev emA (l m : List ab) (i : Nat) : List ab := List.set l i (ab.mk ((List.getD l i aa).entry) ((List.getD l i aa).exit) ((List.getD l i aa).held) ((List.getD m i aa).liveEntry) ((List.getD l i aa).liveExit) ((List.getD l i aa).live))
abbrev emB (l m : List ab) (i : Nat) : List ab := List.set l i (ab.mk ((List.getD l i aa).entry) ((List.getD l i aa).exit) ((List.getD l i aa).held) ((List.getD l i aa).liveEntry) ((List.getD m i aa).liveExit) ((List.getD l i aa).live))
abbrev emC (l m : List ab) (i : Nat) : List ab := List.set l i (ab.mk ((List.getD l i aa).entry) ((List.getD l i aa).exit) ((List.getD l i aa).held) ((List.getD l i aa).liveEntry) ((List.getD l i aa).liveExit) ((List.getD m i aa).live))
theorem Ge (l m : List ab) (i : Nat) : (emC (emB (emA l m i) m i) m i).length = l.length := by simp [emA, emB, emC]
theorem Gf (l m : List ab) (i : Nat) (hi : i < l.length) (j : Nat) : sec (emC (emB (emA l m i) m i) m i) j = if j = i then HA (sec l i) (sec m i) else sec l j := by
 have h1 : i < (emA l m i).length := by simp [emA, hi]
 have h2 : i < (emB (emA l m i) m i).length := by simp [emA, emB, hi]
 have a : ∀ j, sec (emA l m i) j = if j = i then ⟨(sec l i).entry, (sec l i).exit, (sec l i).held, (sec m i).liveEntry, (sec l i).liveExit, (sec l i).live⟩ else sec l j := fun j => wO _ _ _ hi j
 have b : ∀ j, sec (emB (emA l m i) m i) j = if j = i then ⟨(sec l i).entry, (sec l i).exit, (sec l i).held, (sec m i).liveEntry, (sec m i).liveExit, (sec l i).live⟩ else sec l j := fun j => by
  have := wO (emA l m i) i ⟨(sec (emA l m i) i).entry, (sec (emA l m i) i).exit, (sec (emA l m i) i).held, (sec (emA l m i) i).liveEntry, (sec m i).liveExit, (sec (emA l m i) i).live⟩ h1 j
  refine this.trans ?_
  rw [a i, if_pos rfl]
  split
  ·rfl
  ·rename_i hj; rw [a j, if_neg hj]
 have := wO (emB (emA l m i) m i) i ⟨(sec (emB (emA l m i) m i) i).entry, (sec (emB (emA l m i) m i) i).exit, (sec (emB (emA l m i) m i) i).held, (sec (emB (emA l m i) m i) i).liveEntry, (sec (emB (emA l m i) m i) i).liveExit, (sec m i).live⟩ h2 j
 refine this.trans ?_
 rw [b i, if_pos rfl]
 split
 ·rfl
 ·rename_i hj; rw [b j, if_neg hj]
theorem Ej (m : List ab) (n : Nat) (hn : n ≤ 65536) (hm : m.length = n) : ∀ (k f : Nat) (l : List ab), f + k = n → l.length = n → ∃ l', cu l m (n : Int) (f : Int) = some l' ∧ l'.length = n ∧ ∀ g, g < n → sec l' g = if f ≤ g then HA (sec l g) (sec m g) else sec l g
 | 0, f, l, h, hl => by
  rw [cu, iN (by omega)]
  exact ⟨l, rfl, hl, fun g hg => by rw [if_neg (by omega)]⟩
 | k + 1, f, l, h, hl => by
  obtain ⟨l', i1, i2, i3⟩ := Ej m n hn hm k (f + 1) (emC (emB (emA l m f) m f) m f) (by omega) (by rw [Ge, hl])
  refine ⟨l', ?_, i2, fun g hg => ?_⟩
  ·rw [cu, iP (by omega), iP (by omega), iP (by omega), iP (by omega), inc f (by omega), Int.toNat_natCast f]
   exact i1
  ·rw [i3 g hg, Gf l m f (by omega)]
   by_cases h1 : f + 1 ≤ g
   ·rw [if_pos h1, if_neg (by omega), if_pos (by omega)]
   ·rw [if_neg h1]
    by_cases h2 : g = f
    ·subst h2; rw [if_pos rfl, if_pos (Nat.le_refl _)]
    ·rw [if_neg h2, if_neg (by omega)]
theorem BG (x0 : FS) (m : List ab) (n : Nat) (hn : n ≤ 65536) (hm : m.length = n) : ∀ (k f : Nat) (l : List ab), f + k = n → l.length = n → ∃ l', dj x0 l m (n : Int) (f : Int) = some l' ∧ l'.length = n ∧ ∀ g, g < n → sec l' g = if f ≤ g then HA (sec l g) (sec m g) else sec l g
 | 0, f, l, h, hl => by
  rw [dj, iN (by omega)]
  exact ⟨l, rfl, hl, fun g hg => by rw [if_neg (by omega)]⟩
 | k + 1, f, l, h, hl => by
  obtain ⟨l', i1, i2, i3⟩ := BG x0 m n hn hm k (f + 1) (emC (emB (emA l m f) m f) m f) (by omega) (by rw [Ge, hl])
  refine ⟨l', ?_, i2, fun g hg => ?_⟩
  ·rw [dj, iP (by omega), iP (by omega), iP (by omega), iP (by omega), inc f (by omega), Int.toNat_natCast f]
   exact i1
  ·rw [i3 g hg, Gf l m f (by omega)]
   by_cases h1 : f + 1 ≤ g
   ·rw [if_pos h1, if_neg (by omega), if_pos (by omega)]
   ·rw [if_neg h1]
    by_cases h2 : g = f
    ·subst h2; rw [if_pos rfl, if_pos (Nat.le_refl _)]
    ·rw [if_neg h2, if_neg (by omega)]
theorem HB (p : ac) (hg : a9 p) (hk : aI p = some (0, 0, 0)) : ∃ l u fm bg, eH p = some (0, l) ∧ uc p u fm ∧ cS p = some (bg, 0) ∧ Fi p u fm bg l := by
 have hn := hg.funcs
 obtain ⟨u, fm, h⟩ := Id p hg hk
 obtain ⟨bg, b1, _⟩ := yX p hg hk
 obtain ⟨v, t, t1, t2, t3, t4, t5⟩ := Er p hg h
 obtain ⟨w, m, m1, m2, m3, m4, m5⟩ := B1 p hg b1
 obtain ⟨l, l1, l2, l3⟩ := Ej m p.funcs.length (by omega) m4 p.funcs.length 0 t (by omega) t4
 rw [show ((0 : Nat) : Int) = 0 from rfl] at l1
 refine ⟨l, u, fm, bg, ?_, h, b1, Ei hg t2 t3 t4 t5 m2 m3 m4 m5 l2 fun f hf => by rw [l3 f hf, if_pos (Nat.zero_le _)]⟩
 unfold eH
 rw [bind_some t1, if_neg (show ¬ ((0 : Int) != 0) = true by decide), bind_some m1, if_neg (show ¬ ((0 : Int) != 0) = true by decide)]
 dsimp only
 rw [t4, bind_some l1]
theorem Gg (p : ac) (hg : a9 p) (hk : aI p = some (0, 0, 0)) : ∃ l u fm bg, gB p.funcs p.globals p.locks p.slots = some (0, l) ∧ uc p u fm ∧ cS p = some (bg, 0) ∧ Fi p u fm bg l := by
 have hn := hg.funcs
 obtain ⟨u, fm, h⟩ := Id p hg hk
 obtain ⟨bg, b1, _⟩ := yX p hg hk
 obtain ⟨v, t, t1, t2, t3, t4, t5⟩ := Er p hg h
 obtain ⟨w, m, m1, m2, m3, m4, m5⟩ := B1 p hg b1
 obtain ⟨l, l1, l2, l3⟩ := BG p.funcs m p.funcs.length (by omega) m4 p.funcs.length 0 t (by omega) t4
 rw [show ((0 : Nat) : Int) = 0 from rfl] at l1
 refine ⟨l, u, fm, bg, ?_, h, b1, Ei hg t2 t3 t4 t5 m2 m3 m4 m5 l2 fun f hf => by rw [l3 f hf, if_pos (Nat.zero_le _)]⟩
 unfold gB
 rw [bind_some (show jU (ac.mk p.globals p.locks p.slots p.funcs) = _ from t1), if_neg (show ¬ ((0 : Int) != 0) = true by decide), bind_some (show jV (ac.mk p.globals p.locks p.slots p.funcs) = _ from m1), if_neg (show ¬ ((0 : Int) != 0) = true by decide)]
 dsimp only
 rw [t4, bind_some l1]
theorem wP : dc = some true := by
 obtain ⟨l, u, fm, bg, s1, h, b1, ht⟩ := Gg p0 o9 rX
 have hl : l.length = 1 := ht.shp.1
 have hd := jj o9 rX
 have hm := (tn p0 o9 h).1 l ht.shp
 have hy := (xv p0 o9 b1).1 l ht.shp
 rw [DV ht.shp.1 ht.fine] at hm
 rw [Bb ht.shp.1 ht.fineL] at hy
 have ha := mS p0 o9 rX ⟨jI (gq p0), l, []⟩ ht.shp rfl _ _ hm hy
 have hc : (iS p0 ⟨jI (gq p0), l, []⟩ ⟨0, 0, 0⟩ ⟨0, 0, 0⟩).what = 0 := (tq _ _ _ _).2 ⟨fun i _ => rfl, rfl, rfl, wM o9 l fun k hk => absurd hk (by show ¬ k < 0; omega)⟩
 rw [hc] at ha
 have hmk : pd ([[ad.mk 9 0 0 0]]) 0 0 0 = some (jI (gq p0), true, 0, l, []) := by
  unfold pd
  rw [bind_some (show dn _ = _ from hd), if_neg (show ¬ ((0 : Int) != 0) = true by decide), bind_some (show gB _ _ _ _ = _ from s1), if_neg (show ¬ ((0 : Int) != 0) = true by decide)]
  dsimp only
  rw [iy, if_neg (by decide)]
  rw [bind_some rfl]
  dsimp only
  rw [xx]
 unfold dc
 rw [bind_some hmk]
 dsimp only
 rw [if_pos rfl, if_pos (by decide), if_pos (by rw [hl]; decide), bind_some (show bQ _ _ = _ from ha)]
 rfl
theorem Gh {j : ah} {locks : Int} (h : lC j locks = true) : ∃ k, k < 2 + locks.toNat ∧ tr k = j := by
 unfold lC at h
 obtain ⟨kind, lock⟩ := j
 by_cases h2 : kind = 2
 ·subst h2
  rw [if_pos rfl, Bool.and_eq_true, decide_eq_true_iff, decide_eq_true_iff] at h
  have h : 0 ≤ lock ∧ lock < locks := h
  refine ⟨lock.toNat + 2, by omega, ?_⟩
  unfold tr
  rw [if_neg (by omega), if_neg (by omega)]
  congr 1
  omega
 ·rw [if_neg h2] at h
  by_cases h0 : kind = 0
  ·subst h0
   rw [if_pos rfl] at h
   have h : (lock == 0) = true := h
   exact ⟨0, by omega, by rw [eq_of_beq h]; rfl⟩
  ·rw [if_neg h0] at h
   by_cases h1 : kind = 1
   ·subst h1
    rw [if_pos rfl] at h
    have h : (lock == 0) = true := h
    exact ⟨1, by omega, by rw [eq_of_beq h]; rfl⟩
   ·rw [if_neg h1] at h; cases h
theorem HC {p : ac} (h0 : 0 ≤ p.locks) (h1 : p.locks ≤ 16) {b : Nat} (h : (b : Int) < p.locks) : (uK p).getLsbD b = true := by
 unfold uK
 rw [BitVec.getLsbD_setWidth]
 obtain ⟨n, hn⟩ : ∃ n : Nat, p.locks = (n : Int) := ⟨p.locks.toNat, by omega⟩
 rw [hn] at h h1 ⊢
 rw [Int.toNat_natCast]
 have hb : b < n := by omega
 have hn16 : n ≤ 16 := by omega
 have key : ∀ n : Fin 17, ∀ b : Fin 16, b.val < n.val → (decide (b.val < 32) && ((((1#64) <<< n.val) - 1#64)).getLsbD b.val) = true := by decide
 exact key ⟨n, by omega⟩ ⟨b, by omega⟩ hb
theorem C5 {j : ah} {w : Bool} {h l h' l' : W32} (hl : sub l' l) (hh : j.kind = 2 → eC h j.lock = true → eC h' j.lock = true) (h1 : ip j w h l = true) : ip j w h' l' = true := by
 unfold ip at h1 ⊢
 by_cases c : l' = 0#32
 ·rw [if_pos c]
 ·have c2 : l ≠ 0#32 := fun e => c (by
   subst e
   apply BitVec.eq_of_getLsbD_eq
   intro i hi
   cases hb : l'.getLsbD i with
   | false => simp
   | true => have := hl i hb; simp at this)
  rw [if_neg c2] at h1
  rw [if_neg c]
  by_cases k1 : j.kind = 1
  ·rw [if_pos k1] at h1 ⊢; exact h1
  ·rw [if_neg k1] at h1 ⊢
   by_cases k2 : j.kind = 2
   ·rw [if_pos k2] at h1 ⊢; exact hh k2 h1
   ·rw [if_neg k2] at h1; cases h1
theorem Fj {p : ac} (hg : a9 p) {u : List W32} {fm bg : W32} {l : List ab} (ht : Fi p u fm bg l) {c : List ab} (hs : Shp p c) (hF : CP p c u fm) (hFL : vL p c bg) {js : List ah} (hj : (js.length : Int) = p.globals) (hG : (fp p c js).what = 0) (k : Nat) (hk : k < p.globals.toNat) : gA p l (k : Int) ≠ none := by
 have hgl := hg.globals
 have hlk := hg.locks
 obtain ⟨g1, g2⟩ := Ca.1 hG
 have hr := g1 k (by omega)
 obtain ⟨t, t1, t2⟩ := Gh hr
 intro hno
 have hno : jG (fun k' => okJ p l (k : Int) (tr k')) 0 (2 + p.locks.toNat) = none := hno
 have h1 := oM hno t (Nat.zero_le _) (by omega)
 have h1 : okJ p l (k : Int) (tr t) = false := h1
 rw [t2] at h1
 have h2 : okJ p l (k : Int) (List.getD js k am) = true := mG.2 fun f i hf hi => by
  unfold xy
  cases ha : acc (nde p f i) with
  | false => rfl
  | true =>
   cases hb : ((nde p f i).arg == (k : Int)) with
   | false => rfl
   | true =>
    have hb := eq_of_beq hb
    have hgd := g2 f i hf hi
    unfold grd at hgd
    rw [ha] at hgd
    have ej : jus js (nde p f i).arg = List.getD js k am := by
     show List.getD js (nde p f i).arg.toNat am = _
     rw [hb, Int.toNat_natCast]
    rw [ej] at hgd
    have hgd : ip (List.getD js k am) ((nde p f i).kind == 2) (hld c f i) (liv c f i) = true := by simpa using hgd
    have := C5 (ht.least c hs hFL f i hf hi) (h' := hld l f i) (fun k2 hh => by
     unfold eC at hh ⊢
     split at hh
     ·rename_i hlo
      rw [if_pos hlo]
      refine ht.best c hs hF f i hf hi _ ?_
      rw [BitVec.getLsbD_and, Bool.and_eq_true]
      refine ⟨HC hlk.1 hlk.2 ?_, hh⟩
      have := hr
      unfold lC at this
      rw [if_pos k2, Bool.and_eq_true, decide_eq_true_iff, decide_eq_true_iff] at this
      omega
     ·cases hh) hgd
    rw [this]; rfl
 rw [h2] at h1; cases h1
theorem Ek (p : ac) (hg : a9 p) (l : List ab) (hs : Shp p l) (x0 : List ab) (x1 : List ah) (x8 x9 : Nat → B8) (G : Nat) (hG : G ≤ 16) : ∀ (m g : Nat) (t : List ah), g + m = G → t.length = g →
  ((∀ k, g ≤ k → k < G → gA p l (k : Int) ≠ none) → du x0 x1 l t p.globals p.locks p.slots p.funcs x8 x9 (G : Int) (g : Int) = some (.x1 (t ++ pK p l g m))) ∧
  (¬ (∀ k, g ≤ k → k < G → gA p l (k : Int) ≠ none) → ∃ t', du x0 x1 l t p.globals p.locks p.slots p.funcs x8 x9 (G : Int) (g : Int) = some (.x0 [] [] t' (fun _ => 0#8) false 0))
 | 0, g, t, h, ht => by
  rw [du, iN (by omega)]
  exact ⟨fun _ => by simp [pK], fun hn => absurd (fun k h1 h2 => by omega) hn⟩
 | m + 1, g, t, h, ht => by
  rw [du, iP (by omega), bind_some (show fZ (ac.mk p.globals p.locks p.slots p.funcs) l (g : Int) = _ from Eh p hg l hs (g : Int)), inc g (by omega)]
  cases hb : gA p l (g : Int) with
  | none =>
   refine ⟨fun h => absurd hb (h g (Nat.le_refl _) (by omega)), fun _ => ⟨t, ?_⟩⟩
   rfl
  | some k =>
   obtain ⟨i1, i2⟩ := Ek p hg l hs x0 x1 x8 x9 G hG m (g + 1) (t ++ [tr k]) (by omega) (by simp [ht])
   have e : (∀ j, g ≤ j → j < G → gA p l (j : Int) ≠ none) ↔ (∀ j, g + 1 ≤ j → j < G → gA p l (j : Int) ≠ none) := ⟨fun h j h1 h2 => h j (by omega) h2, fun h j h1 h2 => by
    rcases Nat.eq_or_lt_of_le h1 with rfl | h3
    ·rw [hb]; exact fun h => by cases h
    ·exact h j h3 h2⟩
   have e1 : t ++ pK p l g (m + 1) = t ++ [tr k] ++ pK p l (g + 1) m := by
    rw [List.append_assoc, show pK p l g (m + 1) = tr ((gA p l (g : Int)).getD 0) :: pK p l (g + 1) m from rfl, hb]
    rfl
   rw [e, e1]
   dsimp only
   rw [if_neg (by decide), if_pos (Nat.ble_eq_true_of_le (by simp only [List.length_singleton, aK]; omega))]
   exact ⟨i1, i2⟩
def t7 (p : ac) (l : List ab) : Nat → Nat → List Int
 | _, 0 => []
 | g, m + 1 => match gA p l (g : Int) with
  | none => (g : Int) :: t7 p l (g + 1) m
  | some _ => t7 p l (g + 1) m
theorem wQ (p : ac) (hg : a9 p) (l : List ab) (hs : Shp p l) (G : Nat) (hG : G ≤ 16) : ∀ (m g : Nat) (t : List Int), g + m = G → t.length ≤ g → dT l t p.globals p.locks p.slots p.funcs (G : Int) (g : Int) = some (t ++ t7 p l g m)
 | 0, g, t, h, ht => by
  rw [dT, iN (by omega)]
  simp [t7]
 | m + 1, g, t, h, ht => by
  rw [dT, iP (by omega), bind_some (show fZ (ac.mk p.globals p.locks p.slots p.funcs) l (g : Int) = _ from Eh p hg l hs (g : Int)), inc g (by omega)]
  unfold t7
  cases hb : gA p l (g : Int) with
  | none =>
   dsimp only
   rw [if_pos (by decide), if_pos (Nat.ble_eq_true_of_le (by simp only [List.length_singleton, aK]; omega)), wQ p hg l hs G hG m (g + 1) _ (by omega) (by simp; omega), List.append_assoc]
   rfl
  | some k =>
   dsimp only
   rw [if_neg (by decide), wQ p hg l hs G hG m (g + 1) t (by omega) (by omega)]
theorem zj {p : ac} {l : List ab} : ∀ (m g : Nat), (∀ k, g ≤ k → k < g + m → gA p l (k : Int) ≠ none) → t7 p l g m = []
 | 0, g, h => rfl
 | m + 1, g, h => by
  have h1 := h g (Nat.le_refl _) (by omega)
  unfold t7
  cases hb : gA p l (g : Int) with
  | none => exact absurd hb h1
  | some k => exact zj m (g + 1) fun k h2 h3 => h k (by omega) (by omega)
theorem Gi (p : ac) (hg : a9 p) (hk : aI p = some (0, 0, 0)) : ∃ l u fm bg, eH p = some (0, l) ∧ uc p u fm ∧ cS p = some (bg, 0) ∧ Fi p u fm bg l ∧
  mv p = some (0, t7 p l 0 p.globals.toNat) ∧ ((∀ k, k < p.globals.toNat → gA p l (k : Int) ≠ none) → gO p = some (jI (gq p), true, 0, l, pK p l 0 p.globals.toNat)) ∧ (¬ (∀ k, k < p.globals.toNat → gA p l (k : Int) ≠ none) → gO p = some (fun _ => 0#8, false, 0, [], [])) := by
 have hgl := hg.globals
 obtain ⟨l, u, fm, bg, s1, h, b1, ht⟩ := HB p hg hk
 have hd := jj hg hk
 obtain ⟨k1, k2⟩ := Ek p hg l ht.shp [] [] (fun _ => 0#8) (eD (fun _ => 0#8) 0 32 (jI (gq p))) p.globals.toNat (by omega) p.globals.toNat 0 [] (by omega) rfl
 have k3 := wQ p hg l ht.shp p.globals.toNat (by omega) p.globals.toNat 0 [] (by omega) (Nat.le_refl _)
 rw [show ((p.globals.toNat : Nat) : Int) = p.globals by omega, show ((0 : Nat) : Int) = 0 from rfl] at k1 k2 k3
 rw [List.nil_append] at k1 k3
 refine ⟨l, u, fm, bg, s1, h, b1, ht, ?_, fun hb => ?_, fun hb => ?_⟩
 ·unfold mv
  rw [bind_some s1]
  dsimp only
  rw [if_neg (show ¬ ((0 : Int) != 0) = true by decide), bind_some k3]
 ·unfold gO
  rw [bind_some hd]
  dsimp only
  rw [if_neg (show ¬ ((0 : Int) != 0) = true by decide), bind_some s1]
  dsimp only
  rw [if_neg (show ¬ ((0 : Int) != 0) = true by decide), bind_some (k1 fun k _ hk => hb k hk)]
  dsimp only
  rw [xx]
 ·obtain ⟨t', k4⟩ := k2 fun h => hb fun k hk => h k (Nat.zero_le _) hk
  unfold gO
  rw [bind_some hd]
  dsimp only
  rw [if_neg (show ¬ ((0 : Int) != 0) = true by decide), bind_some s1]
  dsimp only
  rw [if_neg (show ¬ ((0 : Int) != 0) = true by decide), bind_some k4]
theorem HD {p : ac} (hg : a9 p) (hk : aI p = some (0, 0, 0)) {u : List W32} {fm bg : W32} {l : List ab} (h : uc p u fm) (b1 : cS p = some (bg, 0)) (ht : Fi p u fm bg l) (hb : ∀ k, k < p.globals.toNat → gA p l (k : Int) ≠ none) : bQ p ⟨jI (gq p), l, pK p l 0 p.globals.toNat⟩ = some true := by
 have hgl := hg.globals
 have hm := (tn p hg h).1 l ht.shp
 have hy := (xv p hg b1).1 l ht.shp
 rw [DV ht.shp.1 ht.fine] at hm
 rw [Bb ht.shp.1 ht.fineL] at hy
 rw [mS p hg hk ⟨jI (gq p), l, _⟩ ht.shp (by show ((pK p l 0 p.globals.toNat).length : Int) = p.globals; rw [An]; omega) _ _ hm hy]
 rw [(tq p ⟨jI (gq p), l, pK p l 0 p.globals.toNat⟩ ⟨0, 0, 0⟩ ⟨0, 0, 0⟩).2 ⟨fun i _ => rfl, rfl, rfl, wM hg l hb⟩]
 rfl
theorem Gj (p : ac) (c : aD) : gu p c = some true := by
 unfold gu
 rw [bind_some wP, if_neg (by decide)]
 obtain ⟨sm, s1, _⟩ := FM p
 rw [bind_some s1]
 cases sm with
 | false => rw [if_pos (by decide), bind_some wP]
 | true =>
  rw [if_neg (by decide)]
  obtain ⟨fw, f1⟩ := JF c
  rw [bind_some f1]
  cases fw with
  | false => rw [if_pos (by decide), bind_some wP]
  | true =>
   rw [if_neg (by decide)]
   obtain ⟨⟨ra, rb, re⟩, r1, r2, _⟩ := yV p
   by_cases he : re = 0
   ·obtain ⟨r5, hg⟩ := r2 he
    rw [r5] at r1
    by_cases hsh : Shp p c.sections ∧ (c.justs.length : Int) = p.globals
    ·obtain ⟨l, u, fm, bg, e1, h, b1, ht, e2, e3, _⟩ := Gi p hg r1
     have hgl := hg.globals
     have hm := (tn p hg h).1 _ hsh.1
     have hy := (xv p hg b1).1 _ hsh.1
     rw [bind_some (mS p hg r1 c hsh.1 hsh.2 _ _ hm hy)]
     by_cases hw : (iS p c (pW p c.sections u fm) (pX p c.sections bg)).what = 0
     ·obtain ⟨w1, w2, w3, w4⟩ := (tq _ _ _ _).1 hw
      have hb := Fj hg ht hsh.1 (Hm hsh.1.1 w2) (FW hsh.1.1 w3) hsh.2 w4
      rw [if_neg (by rw [hw]; decide), bind_some (e3 hb), bind_some e2]
      dsimp only
      rw [zj _ _ fun k _ hk => hb k (by omega), if_pos (by decide), if_pos rfl, if_pos (by decide), if_pos (by decide), if_pos ((lc _ _).2 w1), bind_some (HD hg r1 h b1 ht hb)]
     ·rw [if_pos (by simpa using hw)]
    ·have := uL p hg r1 c hsh
     have ha : bQ p c = some false := by
      unfold bQ
      rw [bind_some this]
      rfl
     rw [bind_some ha, if_pos (by decide)]
   ·rw [bind_some (FB p r1 he c).2, if_pos (by decide)]
end Go.Bm.GoYtipjbmnfnmlkfaaGreatDoor
