/- Laws of what the claim reaches. -/
import Derived.Test.YtdifolgbppffpaaLiveLa
namespace Go.Bm.GoYtdifolgbppffpaa
set_option autoImplicit false
set_option linter.unusedVariables false
set_option linter.unusedSimpArgs false
set_option maxRecDepth 100000
theorem one_keepsL {N : Nat} {w : List W32} {to own also : Int} {keep th X Y : W32} (h0 : 0 ≤ to) (h1 : to < (N : Int)) (hX : ((gi w own &&& keep) ||| gi w also) ||| th = X) (hY : gi w to = Y) : (0 ≤ to → to < (N : Int) → Dsub (gi w to) (rval ⟨to, own, also, keep, 0#32, th⟩ w)) ↔ subb X Y = true := by
  rw [rval0 hX, hY]
  exact ⟨fun h => subb_iff.2 (h h0 h1), fun h _ _ => subb_iff.1 h⟩
theorem nodeL_iff {p : api_Program} {l : List api_Section} {bg : W32} {f i : Nat} : nodeL p l bg f i = 0 ↔ ((nde p f i).kind = 7 → subb (liv l f i) (sec l (nde p f i).arg.toNat).liveEntry = true) ∧ ((nde p f i).kind = 9 → subb (liv l f i) (sec l f).liveExit = true) ∧ ((nde p f i).kind = 5 → hasb (sec l (nde p f i).arg.toNat).liveEntry p.slots = true) ∧ onL p l bg f i = true :=
  ⟨nodeL_zero, fun ⟨h1, h2, h3, h4⟩ => by rw [nodeL_r h1 h2 h3, if_pos h4]⟩
theorem subb_orL {a b c : W32} : subb (a ||| b) c = true ↔ subb a c = true ∧ subb b c = true := by
  rw [subb_iff, subb_iff, subb_iff]
  constructor
  · intro h
    exact ⟨fun i hi => h i (by rw [BitVec.getLsbD_or, hi]; rfl), fun i hi => h i (by rw [BitVec.getLsbD_or, hi, Bool.or_true])⟩
  · rintro ⟨h1, h2⟩ i hi
    rw [BitVec.getLsbD_or, Bool.or_eq_true] at hi
    exact hi.elim (h1 i) (h2 i)
theorem all_and {js : List Int} {q r s : Int → Bool} (h : ∀ y, s y = true ↔ q y = true ∧ r y = true) : js.all s = true ↔ js.all q = true ∧ js.all r = true := by
  rw [List.all_eq_true, List.all_eq_true, List.all_eq_true]
  exact ⟨fun g => ⟨fun y hy => ((h y).1 (g y hy)).1, fun y hy => ((h y).1 (g y hy)).2⟩, fun g y hy => (h y).2 ⟨g.1 y hy, g.2 y hy⟩⟩
theorem subb_one {id : Int} (h0 : 0 ≤ id) (h1 : id < 32) (a : W32) : subb (one id) a = true ↔ hasb a id = true := by
  unfold hasb
  rw [if_pos ⟨h0, h1⟩, subb_iff]
  constructor
  · intro h
    exact h _ ((one_bit id _).2 ⟨by omega, by omega⟩)
  · intro h i hi
    obtain ⟨h2, _⟩ := (one_bit id i).1 hi
    have : i = id.toNat := by omega
    rw [this]
    exact h
theorem and_one {id : Int} (h0 : 0 ≤ id) (h1 : id < 32) (a : W32) : a &&& one id ≠ 0#32 ↔ hasb a id = true := by
  unfold hasb
  rw [if_pos ⟨h0, h1⟩, ne_zero_iff]
  constructor
  · rintro ⟨i, hi⟩
    rw [BitVec.getLsbD_and, Bool.and_eq_true, one_bit] at hi
    have : i = id.toNat := by omega
    rw [← this]
    exact hi.1
  · intro h
    exact ⟨id.toNat, by rw [BitVec.getLsbD_and, h, Bool.true_and, one_bit]; omega⟩
theorem one_ne {id : Int} (h0 : 0 ≤ id) (h1 : id < 32) : one id ≠ 0#32 := ne_zero_iff.2 ⟨id.toNat, (one_bit id _).2 ⟨by omega, by omega⟩⟩
theorem rval_if {w : List W32} {own id : Int} {th : W32} (h0 : 0 ≤ id) (h1 : id < 32) (to : Int) : rval ⟨to, own, -1, 0#32, one id, th⟩ w = if hasb (gi w own) id = true then th else 0#32 := by
  unfold rval
  simp only []
  rw [gi_neg]
  by_cases h : hasb (gi w own) id = true
  · rw [if_pos (.inr ((and_one h0 h1 _).2 h)), if_pos h]; simp
  · rw [if_neg (fun hh => hh.elim (one_ne h0 h1) fun hh => h ((and_one h0 h1 _).1 hh)), if_neg h]; simp
theorem node_keepsL {p : api_Program} (hg : Good p) {l : List api_Section} {w : List W32} {bg : W32} (hL : LaysL p l w) {f i : Nat} (hf : f < p.funcs.length) (hi : i < (List.getD p.funcs f []).length) :
    (∀ r ∈ nodeRL p bg f i, 0 ≤ r.to_ → r.to_ < (base p.funcs p.funcs.length : Int) → Dsub (gi w r.to_) (rval r w)) ↔ nodeL p l bg f i = 0 := by
  have hok := hg.node f i hf hi
  have hjr := succ_ok hok (by omega)
  have hown := hL.nod f i hf hi
  have hsl := hg.slots
  have hc : (nde p f i).kind = 7 → 0 ≤ (nde p f i).arg ∧ (nde p f i).arg < p.funcs.length := hok.call
  have hsp : (nde p f i).kind = 5 → 0 ≤ (nde p f i).arg ∧ (nde p f i).arg < p.funcs.length ∧ 0 ≤ (nde p f i).alt ∧ (nde p f i).alt < p.slots := hok.spawn
  rw [nodeL_iff]
  unfold nodeRL onL lbh xit
  simp only []
  by_cases h6 : (nde p f i).kind = 6
  · have n5 : (nde p f i).kind ≠ 5 := by omega
    rw [if_pos h6, suc_keepsL hL hf hjr (X := liv l f i &&& ~~~(one (nde p f i).arg)) (fun to => rval0 (by rw [gi_neg, hown]; simp)), if_neg n5, if_pos h6]
    exact ⟨fun h => ⟨fun h7 => by omega, fun h9 => by omega, fun h5 => by omega, h⟩, fun h => h.2.2.2⟩
  rw [if_neg h6]
  by_cases h7 : (nde p f i).kind = 7
  · have ha := hc h7
    have n5 : (nde p f i).kind ≠ 5 := by omega
    have hb := base_lt (p := p) (f := (nde p f i).arg.toNat) (by omega) (k := 0) (by omega)
    rw [if_pos h7, List.forall_mem_cons, one_keepsL (by omega) (by omega) (x_plain w _) (hL.ent _ (by omega)), hown, suc_keepsL hL hf hjr (X := (sec l (nde p f i).arg.toNat).liveExit) (fun to => rval0 (by rw [x_plain, hL.exi _ (by omega)])), if_neg n5, if_neg h6, if_pos h7, if_pos h7]
    exact ⟨fun h => ⟨fun _ => h.1, fun h9 => by omega, fun h5 => by omega, h.2⟩, fun h => ⟨h.1 h7, h.2.2.2⟩⟩
  rw [if_neg h7]
  by_cases h9 : (nde p f i).kind = 9
  · have hb := base_lt (p := p) hf (k := 1) (by omega)
    have n5 : (nde p f i).kind ≠ 5 := by omega
    rw [if_pos h9, List.forall_mem_cons, one_keepsL (by omega) (by omega) (x_plain w _) (hL.exi _ hf), suc_keepsL hL hf hjr (X := liv l f i) (fun to => rval0 (by rw [x_plain, hown])), hown, if_neg n5, if_neg h6, if_neg h7]
    exact ⟨fun h => ⟨fun h => absurd h h7, fun _ => h.1, fun h5 => absurd h5 n5, h.2⟩, fun h => ⟨h.2.1 h9, h.2.2.2⟩⟩
  rw [if_neg h9]
  by_cases h5 : (nde p f i).kind = 5
  · have ha := hsp h5
    have hb := base_lt (p := p) (f := (nde p f i).arg.toNat) (by omega) (k := 0) (by omega)
    rw [if_pos h5, List.forall_mem_append, List.forall_mem_cons, one_keepsL (X := one p.slots) (by omega) (by omega) (by rw [gi_neg]; simp) (hL.ent _ (by omega)), subb_one hsl.1 (by omega), suc_keepsL hL hf hjr (X := if hasb (liv l f i) (nde p f i).alt = true then one p.slots else 0#32) (fun to => by rw [rval_if ha.2.2.1 (by omega), hown]), suc_keepsL hL hf hjr (X := liv l f i ||| (if hasb bg (nde p f i).arg = true then one (nde p f i).alt ||| one p.slots else one (nde p f i).alt)) (fun to => rval0 (by rw [gi_neg, and_all, hown]; simp)), if_pos h5]
    have hall : (succ (nde p f i)).all (fun y => subb ((liv l f i ||| one (nde p f i).alt) ||| (if hasb bg (nde p f i).arg = true ∨ hasb (liv l f i) (nde p f i).alt = true then one p.slots else 0#32)) (liv l f y.toNat)) = true ↔ (succ (nde p f i)).all (fun y => subb (if hasb (liv l f i) (nde p f i).alt = true then one p.slots else 0#32) (liv l f y.toNat)) = true ∧ (succ (nde p f i)).all (fun y => subb (liv l f i ||| (if hasb bg (nde p f i).arg = true then one (nde p f i).alt ||| one p.slots else one (nde p f i).alt)) (liv l f y.toNat)) = true := by
      refine all_and fun y => ?_
      have hz : subb 0#32 (liv l f y.toNat) = true := subb_iff.2 fun i h => by simp at h
      by_cases c1 : hasb bg (nde p f i).arg = true <;> by_cases c2 : hasb (liv l f i) (nde p f i).alt = true
      · rw [if_pos (.inl c1), if_pos c2, if_pos c1, subb_orL, subb_orL, subb_orL, subb_orL]
        exact ⟨fun ⟨⟨a, b⟩, c⟩ => ⟨c, a, b, c⟩, fun ⟨_, a, b, c⟩ => ⟨⟨a, b⟩, c⟩⟩
      · rw [if_pos (.inl c1), if_neg c2, if_pos c1, subb_orL, subb_orL, subb_orL, subb_orL]
        exact ⟨fun ⟨⟨a, b⟩, c⟩ => ⟨hz, a, b, c⟩, fun ⟨_, a, b, c⟩ => ⟨⟨a, b⟩, c⟩⟩
      · rw [if_pos (.inr c2), if_pos c2, if_neg c1, subb_orL, subb_orL]
        exact ⟨fun ⟨a, c⟩ => ⟨c, a⟩, fun ⟨c, a⟩ => ⟨a, c⟩⟩
      · rw [if_neg (fun h => h.elim c1 c2), if_neg c2, if_neg c1, subb_orL, subb_orL]
        exact ⟨fun ⟨a, c⟩ => ⟨c, a⟩, fun ⟨c, a⟩ => ⟨a, c⟩⟩
    rw [hall]
    exact ⟨fun h => ⟨fun h => absurd h h7, fun h => absurd h h9, fun _ => h.1.1, h.1.2, h.2⟩, fun h => ⟨⟨h.2.2.1 h5, h.2.2.2.1⟩, h.2.2.2.2⟩⟩
  · rw [if_neg h5, suc_keepsL hL hf hjr (X := liv l f i) (fun to => rval0 (by rw [x_plain, hown])), if_neg h5, if_neg h6, if_neg h7]
    exact ⟨fun h => ⟨fun h => absurd h h7, fun h => absurd h h9, fun h => absurd h h5, h⟩, fun h => h.2.2.2⟩
theorem func_keepsL {p : api_Program} (hg : Good p) {l : List api_Section} {w : List W32} {bg : W32} (hL : LaysL p l w) {f : Nat} (hf : f < p.funcs.length) :
    (∀ r ∈ funcRL p bg f, 0 ≤ r.to_ → r.to_ < (base p.funcs p.funcs.length : Int) → Dsub (gi w r.to_) (rval r w)) ↔ subb (sec l f).liveEntry (liv l f 0) = true ∧ ∀ i, i < (List.getD p.funcs f []).length → nodeL p l bg f i = 0 := by
  have hb0 := base_lt (p := p) hf (k := 0) (by omega)
  have hb2 := base_lt (p := p) hf (k := 2 + 0) (by have := hg.len f hf; omega)
  have hn : (∀ r ∈ nodesRL p bg f 0 (List.getD p.funcs f []).length, 0 ≤ r.to_ → r.to_ < (base p.funcs p.funcs.length : Int) → Dsub (gi w r.to_) (rval r w)) ↔ ∀ i, i < (List.getD p.funcs f []).length → nodeL p l bg f i = 0 := by
    constructor
    · intro h i hi
      exact (node_keepsL hg hL hf hi).1 fun r hr => h r (nodesRL_mem.2 ⟨i, Nat.zero_le _, by omega, hr⟩)
    · intro h r hr
      obtain ⟨k, _, h2, h3⟩ := nodesRL_mem.1 hr
      exact (node_keepsL hg hL hf (by omega)).2 (h k (by omega)) r h3
  unfold funcRL
  rw [List.forall_mem_cons, hn, one_keepsL (by omega) (by omega) (x_plain w _) (hL.nod f 0 hf (hg.len f hf).1), hL.ent f hf]
theorem keepsL_iff {p : api_Program} (hg : Good p) {l : List api_Section} {w : List W32} {bg : W32} (hL : LaysL p l w) : DKeeps (funcsRL p bg 0 p.funcs.length) (base p.funcs p.funcs.length) w ↔ FineL p l bg := by
  unfold DKeeps FineL
  constructor
  · intro h f hf
    exact (func_keepsL hg hL hf).1 fun r hr => h r (funcsRL_mem.2 ⟨f, Nat.zero_le _, by omega, hr⟩)
  · intro h r hr
    obtain ⟨k, _, h2, h3⟩ := funcsRL_mem.1 hr
    exact (func_keepsL hg hL (by omega)).2 (h k (by omega)) r h3
theorem gi_app_l {w t : List W32} {j : Nat} (h : j < w.length) : gi (w ++ t) (j : Int) = gi w (j : Int) := by
  unfold gi
  rw [if_pos (by rw [List.length_append]; omega), if_pos (by omega), Int.toNat_natCast]
  simp [List.getD, List.getElem?_append_left h]
theorem gi_app_r {w t : List W32} {j : Nat} (h : j < t.length) : gi (w ++ t) ((w.length + j : Nat) : Int) = List.getD t j 0#32 := by
  unfold gi
  rw [if_pos (by rw [List.length_append]; omega), Int.toNat_natCast]
  unfold List.getD
  rw [List.getElem?_append_right (Nat.le_add_right _ _), Nat.add_sub_cancel_left]
theorem laysL_some (p : api_Program) (l : List api_Section) (hs : Shp p l) : ∀ m, m ≤ p.funcs.length → ∃ w : List W32, w.length = base p.funcs m ∧ ∀ f, f < m → gi w (base p.funcs f : Int) = (sec l f).liveEntry ∧ gi w ((base p.funcs f + 1 : Nat) : Int) = (sec l f).liveExit ∧ ∀ i, i < (List.getD p.funcs f []).length → gi w ((base p.funcs f + 2 + i : Nat) : Int) = liv l f i
  | 0, _ => ⟨[], rfl, fun f h => by omega⟩
  | m + 1, h => by
    obtain ⟨w, w1, w2⟩ := laysL_some p l hs m (by omega)
    have hh := (hs.2 m (by omega)).2
    refine ⟨w ++ ((sec l m).liveEntry :: (sec l m).liveExit :: (sec l m).live), by rw [List.length_append, List.length_cons, List.length_cons, base, w1, hh]; omega, fun f hf => ?_⟩
    by_cases e : f = m
    · subst e
      have g := fun j (hj : j < ((sec l f).liveEntry :: (sec l f).liveExit :: (sec l f).live).length) => gi_app_r (w := w) hj
      simp only [List.length_cons] at g
      rw [w1] at g
      refine ⟨?_, ?_, fun i hi => ?_⟩
      · have := g 0 (by omega)
        rw [Nat.add_zero] at this
        rw [this]; rfl
      · rw [g 1 (by omega)]; rfl
      · rw [show base p.funcs f + 2 + i = base p.funcs f + (i + 2) by omega, g (i + 2) (by omega)]; rfl
    · have hb := base_mono p.funcs (show f < m by omega)
      obtain ⟨h1, h2, h3⟩ := w2 f (by omega)
      exact ⟨by rw [gi_app_l (by omega)]; exact h1, by rw [gi_app_l (by omega)]; exact h2, fun i hi => by rw [gi_app_l (by omega)]; exact h3 i hi⟩
theorem laysL_ex (p : api_Program) (l : List api_Section) (hs : Shp p l) : ∃ w, LaysL p l w := by
  obtain ⟨w, w1, w2⟩ := laysL_some p l hs p.funcs.length (Nat.le_refl _)
  exact ⟨w, w1, fun f hf => (w2 f hf).1, fun f hf => (w2 f hf).2.1, fun f i hf hi => (w2 f hf).2.2 i hi⟩
theorem getD_gi {v : List W32} {j : Nat} (h : j < v.length) : List.getD v j 0#32 = gi v (j : Int) := by
  unfold gi
  rw [if_pos (by omega), Int.toNat_natCast]
theorem findL_l12 (p : api_Program) (hg : Good p) (bs : List Int) (hb : Bases p bs) (v : List W32) (hv : v.length = base p.funcs p.funcs.length) (x2 : List api_Section) (x4 : List W32) (x5 x6 x7 x8 : W32) (f : Nat) (hf : f < p.funcs.length) (x10 : FS) (x11 x12 : Int) : ∀ (m i : Nat) (h : List W32), i + m = (List.getD p.funcs f []).length → h.length = i → (∀ k, k < i → List.getD h k 0#32 = gi v ((base p.funcs f + 2 + k : Nat) : Int)) → ∃ h', live_Find_l12 bs v x2 x4 h x5 x6 x7 x8 (f : Int) x10 x11 x12 ((List.getD p.funcs f []).length : Int) (i : Int) = some h' ∧ h'.length = (List.getD p.funcs f []).length ∧ ∀ k, k < (List.getD p.funcs f []).length → List.getD h' k 0#32 = gi v ((base p.funcs f + 2 + k : Nat) : Int)
  | 0, i, h, hi, hl, hget => by
    rw [live_Find_l12, if_neg (by simp only [decide_eq_true_eq]; omega)]
    exact ⟨h, rfl, by omega, fun k hk => hget k (by omega)⟩
  | m + 1, i, h, hi, hl, hget => by
    have hle := hg.le f
    have hbl := base_lt (p := p) hf (k := 2 + i) (by omega)
    have hn := node_eq hg hb hf (i := (i : Int)) (by omega) (by omega)
    rw [Int.toNat_natCast] at hn
    rw [live_Find_l12, if_pos (decide_eq_true (by omega)), bind_some hn, if_pos (decide_eq_true (by omega)), if_pos (decide_eq_true (by omega)), if_pos (Nat.ble_eq_true_of_le (by simp only [List.length_singleton, reach]; omega)), inc i (by omega), Int.toNat_natCast]
    refine findL_l12 p hg bs hb v hv x2 x4 x5 x6 x7 x8 f hf x10 x11 x12 m (i + 1) _ (by omega) (by rw [List.length_append, List.length_singleton]; omega) fun k hk => ?_
    rw [getD_snoc]
    split
    · rename_i e
      subst e
      rw [hl]
      exact getD_gi (by omega)
    · exact hget k (by omega)
/-- A function's section of sets. -/
structure FoundL (p : api_Program) (v : List W32) (f : Nat) (s : api_Section) : Prop where
  ent : s.liveEntry = gi v (base p.funcs f : Int)
  exi : s.liveExit = gi v ((base p.funcs f + 1 : Nat) : Int)
  hl : s.live.length = (List.getD p.funcs f []).length
  nod : ∀ i, i < (List.getD p.funcs f []).length → List.getD s.live i 0#32 = gi v ((base p.funcs f + 2 + i : Nat) : Int)
  hd : s.held = List.replicate (List.getD p.funcs f []).length 0#32
  en : s.entry = 0#32
  ex : s.exit = 0#32
theorem findL_l8 (p : api_Program) (hg : Good p) (bs : List Int) (hb : Bases p bs) (v : List W32) (hv : v.length = base p.funcs p.funcs.length) : ∀ (m f : Nat) (t : List api_Section), f + m = p.funcs.length → t.length = f → (∀ g, g < f → FoundL p v g (sec t g)) → ∃ t', live_Find_l8 bs v t p.funcs (p.funcs.length : Int) (f : Int) = some t' ∧ t'.length = p.funcs.length ∧ ∀ g, g < p.funcs.length → FoundL p v g (sec t' g)
  | 0, f, t, h, hl, hget => by
    rw [live_Find_l8, if_neg (by simp only [decide_eq_true_eq]; omega)]
    exact ⟨t, rfl, by omega, fun g hg => hget g (by omega)⟩
  | m + 1, f, t, h, hl, hget => by
    have hn := hg.funcs
    have hle := hg.le f
    have hb0 := base_lt (p := p) (f := f) (by omega) (k := 0) (by omega)
    have hb1 := base_lt (p := p) (f := f) (by omega) (k := 1) (by omega)
    obtain ⟨hd, q1, q2, q3⟩ := findL_l12 p hg bs hb v hv t (List.replicate (List.getD p.funcs f []).length 0#32) 0#32 0#32 (List.getD v (base p.funcs f) 0#32) (List.getD v (base p.funcs f + 1) 0#32) f (by omega) p.funcs (p.funcs.length : Int) (f : Int) (List.getD p.funcs f []).length 0 [] (Nat.zero_add _) rfl (fun k hk => by omega)
    rw [show ((0 : Nat) : Int) = 0 from rfl] at q1
    rw [live_Find_l8, if_pos (decide_eq_true (by omega)), if_pos (decide_eq_true (by omega)), if_pos (decide_eq_true (by omega)), bind_some (entry_eq hb (by omega)), if_pos (decide_eq_true (by omega)), if_pos (decide_eq_true (by omega)), bind_some (exit_eq hg hb (by omega)), if_pos (decide_eq_true (by omega)), if_pos (decide_eq_true (by omega)), Int.toNat_natCast f, if_pos (decide_eq_true (by omega)), if_pos (decide_eq_true (by simp only [reach]; omega)), Int.toNat_natCast, Int.toNat_natCast, Int.toNat_natCast, bind_some q1, if_pos (Nat.ble_eq_true_of_le (by simp only [List.length_singleton, reach]; omega)), inc f (by omega)]
    refine findL_l8 p hg bs hb v hv m (f + 1) _ (by omega) (by rw [List.length_append, List.length_singleton]; omega) fun g hgf => ?_
    unfold sec
    rw [getD_snoc]
    split
    · rename_i e
      subst e
      rw [hl]
      exact ⟨getD_gi (by omega), getD_gi (by omega), q2, q3, rfl, rfl, rfl⟩
    · exact hget g (by omega)
theorem found_laysL {p : api_Program} {v : List W32} {t : List api_Section} (hv : v.length = base p.funcs p.funcs.length) (hl : t.length = p.funcs.length) (h : ∀ g, g < p.funcs.length → FoundL p v g (sec t g)) : LaysL p t v ∧ Shp p t :=
  ⟨⟨hv, fun f hf => (h f hf).ent.symm, fun f hf => (h f hf).exi.symm, fun f i hf hi => ((h f hf).nod i hi).symm⟩, hl, fun f hf => ⟨by rw [(h f hf).hd, List.length_replicate], (h f hf).hl⟩⟩
theorem findL_eq (p : api_Program) (hg : Good p) {bg : W32} (h : kill_Begins p = some (bg, 0)) : ∃ v t, live_Find p = some (0, t) ∧ Lfp (funcsRL p bg 0 p.funcs.length) (List.replicate (base p.funcs p.funcs.length) 0#32) v ∧ v.length = base p.funcs p.funcs.length ∧ t.length = p.funcs.length ∧ ∀ g, g < p.funcs.length → FoundL p v g (sec t g) := by
  have hn := hg.funcs
  have hbl := base_le hg p.funcs.length
  have hrl := funcsRL_len hg bg p.funcs.length 0
  obtain ⟨bs, b1, b2⟩ := lay_eq p hg
  obtain ⟨v, v1, v2⟩ := least_eq (base p.funcs p.funcs.length : Int) (funcsRL p bg 0 p.funcs.length) (by omega)
  rw [if_pos (by omega), Int.toNat_natCast] at v2
  have hv : v.length = base p.funcs p.funcs.length := by rw [v2.len, List.length_replicate]
  obtain ⟨t, t1, t2, t3⟩ := findL_l8 p hg bs b2 v hv p.funcs.length 0 [] (Nat.zero_add _) rfl (fun g h => by omega)
  rw [show ((0 : Nat) : Int) = 0 from rfl] at t1
  unfold live_Find
  rw [bind_some (rulesL_eq p hg h), if_neg (show ¬ ((0 : Int) != 0) = true by decide), bind_some b1, bind_some v1, bind_some t1]
  exact ⟨v, t, rfl, v2, hv, t2, t3⟩
theorem rulesL_bad (p : api_Program) {a b e : Int} (hk : prog_Check p = some (a, b, e)) (he : e ≠ 0) : live_Rules p = some (e, []) := by
  unfold live_Rules
  rw [bind_some (begins_bad p hk he), if_pos (neT he)]
theorem findL_bad (p : api_Program) {a b e : Int} (hk : prog_Check p = some (a, b, e)) (he : e ≠ 0) : live_Find p = some (e, []) := by
  unfold live_Find
  rw [bind_some (rulesL_bad p hk he), if_pos (neT he)]
/-- What is found is within what keeps the rules. -/
theorem least_of {p : api_Program} {bg : W32} {v w : List W32} (hv : Lfp (funcsRL p bg 0 p.funcs.length) (List.replicate (base p.funcs p.funcs.length) 0#32) v) (hw : DKeeps (funcsRL p bg 0 p.funcs.length) (base p.funcs p.funcs.length) w) (j : Int) : sub (gi v j) (gi w j) :=
  hv.best w (by rw [List.length_replicate]; exact hw) (fun j => by
    intro i hi
    have : gi (List.replicate (base p.funcs p.funcs.length) 0#32) j = 0#32 := by
      unfold gi
      split
      · simp only [List.getD, List.getElem?_replicate]
        split <;> rfl
      · rfl
    rw [this] at hi
    simp at hi) j
theorem shaped_l4P (p : api_Program) (l : List api_Section) (hl : l.length = p.funcs.length) (hn : p.funcs.length ≤ 65536) : ∀ (m i : Nat), i + m = l.length → ∃ b, must_Shaped_l4 p.globals p.locks p.slots p.funcs l (l.length : Int) (i : Int) = some (if b = true then .x1 else .x0 false) ∧ (b = true ↔ ∀ f, i ≤ f → f < p.funcs.length → (sec l f).held.length = (List.getD p.funcs f []).length ∧ (sec l f).live.length = (List.getD p.funcs f []).length)
  | 0, i, h => by
    rw [must_Shaped_l4, if_neg (by simp only [decide_eq_true_eq]; omega)]
    exact ⟨true, rfl, ⟨fun _ f h1 h2 => by omega, fun _ => rfl⟩⟩
  | m + 1, i, h => by
    rw [must_Shaped_l4, if_pos (decide_eq_true (by omega)), if_pos (decide_eq_true (by omega)), if_pos (decide_eq_true (by omega)), if_pos (decide_eq_true (by omega)), Int.toNat_natCast i, inc i (by omega)]
    by_cases h1 : (List.getD l i d_api_Section).held.length = (List.getD p.funcs i []).length
    · by_cases h2 : (List.getD l i d_api_Section).live.length = (List.getD p.funcs i []).length
      · rw [if_neg (neF (by omega)), if_neg (neF (by omega))]
        obtain ⟨b, q1, q3⟩ := shaped_l4P p l hl hn m (i + 1) (by omega)
        refine ⟨b, q1, ?_⟩
        rw [q3]
        constructor
        · intro h3 f h4 h5
          rcases Nat.eq_or_lt_of_le h4 with rfl | h6
          · exact ⟨h1, h2⟩
          · exact h3 f h6 h5
        · exact fun h3 f h4 h5 => h3 f (by omega) h5
      · rw [if_neg (neF (by omega)), if_pos (neT (by omega))]
        exact ⟨false, rfl, ⟨(fun h => by cases h), fun h => absurd (h i (Nat.le_refl _) (by omega)).2 h2⟩⟩
    · rw [if_pos (neT (by omega))]
      exact ⟨false, rfl, ⟨(fun h => by cases h), fun h => absurd (h i (Nat.le_refl _) (by omega)).1 h1⟩⟩
theorem shaped_eqP (p : api_Program) (l : List api_Section) (hn : p.funcs.length ≤ 65536) : ∃ b, must_Shaped p l = some b ∧ (b = true ↔ Shp p l) := by
  unfold must_Shaped Shp
  by_cases hl : l.length = p.funcs.length
  · rw [if_neg (neF (by rw [hl]))]
    obtain ⟨b, q1, q3⟩ := shaped_l4P p l hl hn l.length 0 (by omega)
    rw [show ((0 : Nat) : Int) = 0 from rfl] at q1
    rw [bind_some q1]
    refine ⟨b, ?_, ?_⟩
    · cases b <;> rfl
    · rw [q3]
      exact ⟨fun h => ⟨hl, fun f hf => h f (Nat.zero_le _) hf⟩, fun h f _ hf => h.2 f hf⟩
  · rw [if_pos (neT (by omega))]
    exact ⟨false, rfl, ⟨(fun h => by cases h), fun h => absurd h.1 hl⟩⟩
theorem may_pair (p : api_Program) (hg : Good p) {bg : W32} (h : kill_Begins p = some (bg, 0)) : (∀ l, Shp p l → may_Check p l = some (checkL p l bg, 0)) ∧ ∀ l, ¬ Shp p l → may_Check p l = some (⟨-1, -1, 1⟩, 0) := by
  have hn := hg.funcs.2
  refine ⟨fun l hs => ?_, fun l hs => ?_⟩
  · obtain ⟨b, b1, b2⟩ := shaped_eqP p l (by omega)
    have hb := b2.2 hs
    have h8 := may_l8 p hg l hs bg l.length 0 (by omega)
    rw [show ((0 : Nat) : Int) = 0 from rfl] at h8
    unfold may_Check
    rw [bind_some h, if_neg (show ¬ ((0 : Int) != 0) = true by decide), bind_some b1, hb, if_neg (by decide), bind_some h8]
    unfold checkL
    cases findO (funcLO p l bg) 0 l.length with
    | some y => rfl
    | none => rfl
  · obtain ⟨b, b1, b2⟩ := shaped_eqP p l (by omega)
    have hb : b = false := by
      cases b with
      | false => rfl
      | true => exact absurd (b2.1 rfl) hs
    unfold may_Check
    rw [bind_some h, if_neg (show ¬ ((0 : Int) != 0) = true by decide), bind_some b1, hb, if_pos (by decide)]
def exL : api_Program := ⟨0, 0, 1, [[⟨5, 1, 1, 0⟩, ⟨6, 0, 2, 0⟩, ⟨9, 0, 0, 0⟩], [⟨9, 0, 0, 0⟩]]⟩
def exT : List api_Section := [⟨0#32, 0#32, [0#32, 0#32, 0#32], 0#32, 0#32, [0#32, 1#32, 0#32]⟩, ⟨0#32, 0#32, [0#32], 2#32, 2#32, [2#32]⟩]
theorem exCheckL : prog_Check exL = some (0, 0, 0) := prog_Check_le 40 _ _ (by kernel_rfl)
theorem exGoodL : Good exL := by
  obtain ⟨r, r1, r2, _⟩ := check_eqP exL
  rw [exCheckL] at r1
  cases r1
  exact (r2 rfl).2
theorem exNot : ¬ Spawns exL.funcs 1 := by
  rintro ⟨g, h1, j, h2, h3⟩
  have hp : ∀ x, Path exL.funcs 1 x → x = 1 := fun x hx => path_closed (S := fun y => y = 1) (fun a ha b e => by
    subst ha
    obtain ⟨i, i1, i2, _⟩ := e
    exfalso
    have : i = 0 := by
      have : i < 1 := i1
      omega
    subst this
    exact absurd i2 (by decide)) hx rfl
  have := hp g h1
  subst this
  have : j = 0 := by
    have : j < 1 := h2
    omega
  subst this
  exact absurd h3 (by decide)
theorem exFineL {bg : W32} (hbg : hasb bg 1 = false) : FineL exL exT bg := by
  intro f hf
  have hf2 : f < 2 := hf
  match f, hf2 with
  | 0, _ =>
    refine ⟨by decide, fun i hi => ?_⟩
    have hi3 : i < 3 := hi
    rw [nodeL_iff]
    match i, hi3 with
    | 0, _ =>
      refine ⟨by decide, by decide, by decide, ?_⟩
      unfold onL
      rw [show hasb bg (nde exL 0 0).arg = false from hbg]
      decide
    | 1, _ =>
      refine ⟨by decide, by decide, by decide, ?_⟩
      unfold onL
      rw [lbh_bg (show (nde exL 0 1).kind ≠ 5 by decide) _ _ _ _ false]
      decide
    | 2, _ => exact ⟨by decide, by decide, by decide, rfl⟩
  | 1, _ =>
    refine ⟨by decide, fun i hi => ?_⟩
    have hi1 : i < 1 := hi
    rw [nodeL_iff]
    match i, hi1 with
    | 0, _ => exact ⟨by decide, by decide, by decide, rfl⟩
theorem sub_zero {a : W32} (h : sub a 0#32) : a = 0#32 := by
  apply BitVec.eq_of_getLsbD_eq
  intro i hi
  cases hb : a.getLsbD i with
  | false => simp
  | true => have := h i hb; simp at this
theorem awake23 : alibilaw23_awake = some true := by
  obtain ⟨bg, u1, u2⟩ := begins_eq exL exGoodL exCheckL
  have hbg : hasb bg 1 = false := by
    cases hb : hasb bg 1 with
    | false => rfl
    | true =>
      have h1 : bg.getLsbD 1 = true := hb
      exact absurd ((u2 1).1 h1).2 exNot
  obtain ⟨v, t, t1, t2, t3, t4, t5⟩ := findL_eq exL exGoodL u1
  obtain ⟨hL, hS⟩ := found_laysL t3 t4 t5
  have hk : DKeeps (funcsRL exL bg 0 exL.funcs.length) (base exL.funcs exL.funcs.length) v := by
    have := t2.keeps
    rw [List.length_replicate] at this
    exact this
  have hF := (keepsL_iff exGoodL hL).1 hk
  have hSx : Shp exL exT := by
    refine ⟨rfl, fun f hf => ?_⟩
    have hf2 : f < 2 := hf
    match f, hf2 with
    | 0, _ => exact ⟨rfl, rfl⟩
    | 1, _ => exact ⟨rfl, rfl⟩
  obtain ⟨w, w1⟩ := laysL_ex exL exT hSx
  have hb := least_of t2 ((keepsL_iff exGoodL w1).2 (exFineL hbg))
  have z0 : 0 < exL.funcs.length := by decide
  have z1 : 1 < exL.funcs.length := by decide
  have nb : ∀ f i, f < exL.funcs.length → i < (List.getD exL.funcs f []).length → sub (liv t f i) (liv exT f i) := fun f i hf hi => by
    have := hb ((base exL.funcs f + 2 + i : Nat) : Int)
    rw [w1.nod f i hf hi, hL.nod f i hf hi] at this
    exact this
  obtain ⟨a1, a2, a3, a4⟩ := nodeL_iff.1 ((hF 0 z0).2 0 (by decide))
  have h0 : liv t 0 0 = 0#32 := sub_zero (nb 0 0 z0 (by decide))
  have h2 : liv t 0 2 = 0#32 := sub_zero (nb 0 2 z0 (by decide))
  have h1 : liv t 0 1 = 1#32 := by
    refine sub.antisymm (nb 0 1 z0 (by decide)) ?_
    have c1 := List.all_eq_true.1 a4 1 (by decide)
    have c2 : subb (lbh (nde exL 0 0) (liv t 0 0) (xit t (nde exL 0 0)) exL.slots (hasb bg (nde exL 0 0).arg)) (liv t 0 1) = true := c1
    rw [h0, show hasb bg (nde exL 0 0).arg = false from hbg, show xit t (nde exL 0 0) = 0#32 from rfl] at c2
    exact subb_iff.1 (show subb 1#32 (liv t 0 1) = true from c2)
  have h3 : (sec t 1).liveEntry = 2#32 := by
    have c1 := a3 rfl
    have c2 := hb (base exL.funcs 1 : Int)
    rw [w1.ent 1 z1, hL.ent 1 z1] at c2
    refine sub.antisymm c2 ?_
    exact subb_iff.1 ((subb_one (id := 1) (by decide) (by decide) _).2 c1)
  have hll : (sec t 0).live.length = 3 := (t5 0 z0).hl
  have htl : t.length = 2 := t4
  have hl0 : ((List.getD t 0 d_api_Section).live.length : Int) = 3 := by rw [show (List.getD t 0 d_api_Section).live.length = 3 from hll]; rfl
  unfold alibilaw23_awake
  rw [bind_some (show live_Find (api_Program.mk 0 0 1 ([[api_Node.mk 5 1 1 0, api_Node.mk 6 0 2 0, api_Node.mk 9 0 0 0], [api_Node.mk 9 0 0 0]])) = some (0, t) from t1)]
  simp only []
  rw [if_pos (by decide), if_pos (eqT (by omega)), if_pos (decide_eq_true (by omega)), if_pos (eqT hl0), if_pos (decide_eq_true (by omega)), if_pos (show (List.getD (List.getD t 0 d_api_Section).live 0 0#32 == 0#32) = true by rw [show List.getD (List.getD t 0 d_api_Section).live 0 0#32 = 0#32 from h0]; decide), if_pos (decide_eq_true (by omega)), if_pos (show (List.getD (List.getD t 0 d_api_Section).live 1 0#32 == 1#32) = true by rw [show List.getD (List.getD t 0 d_api_Section).live 1 0#32 = 1#32 from h1]; decide), if_pos (decide_eq_true (by omega)), if_pos (show (List.getD (List.getD t 0 d_api_Section).live 2 0#32 == 0#32) = true by rw [show List.getD (List.getD t 0 d_api_Section).live 2 0#32 = 0#32 from h2]; decide), if_pos (decide_eq_true (by omega)), show (List.getD t 1 d_api_Section).liveEntry = 2#32 from h3]
  rfl
theorem zero_of_sub2 {a b : W32} (h : sub a b) : ¬ ((a &&& ~~~b) != 0#32) = true := by
  rw [(sub_iff _ _).1 h]
  decide
theorem liveB_l18 (a l : List api_Section) (f : Nat) (hf : f < l.length) (hfa : f < a.length) (hh : (List.getD a f d_api_Section).live.length = (List.getD l f d_api_Section).live.length) (hn : (List.getD l f d_api_Section).live.length ≤ 65536) (h : ∀ i, i < (List.getD l f d_api_Section).live.length → sub (liv a f i) (liv l f i)) : ∀ (k i : Nat), i + k = (List.getD l f d_api_Section).live.length → alibilaw23_LiveBest_l18 a l (f : Int) (i : Int) = some .x1
  | 0, i, hi => by
    rw [alibilaw23_LiveBest_l18, if_pos (decide_eq_true (by omega)), if_pos (decide_eq_true (by omega)), Int.toNat_natCast f, if_neg (by simp only [decide_eq_true_eq]; omega)]
  | k + 1, i, hi => by
    have h1 := h i (by omega)
    rw [alibilaw23_LiveBest_l18, if_pos (decide_eq_true (by omega)), if_pos (decide_eq_true (by omega)), Int.toNat_natCast f, if_pos (decide_eq_true (by omega)), if_pos (decide_eq_true (by omega)), if_pos (decide_eq_true (by omega)), if_pos (decide_eq_true (by omega)), if_pos (decide_eq_true (by omega)), Int.toNat_natCast i, if_neg (zero_of_sub2 h1), inc i (by omega)]
    exact liveB_l18 a l f hf hfa hh hn h k (i + 1) (by omega)
theorem liveB_l13 (p : api_Program) (hg : Good p) (a l : List api_Section) (ha : Shp p a) (hl : Shp p l) (he : ∀ f, f < l.length → sub (sec a f).liveEntry (sec l f).liveEntry) (hx : ∀ f, f < l.length → sub (sec a f).liveExit (sec l f).liveExit) (hh : ∀ f i, f < l.length → i < (sec l f).live.length → sub (liv a f i) (liv l f i)) : ∀ (k f : Nat), f + k = l.length → alibilaw23_LiveBest_l13 a l (f : Int) = some .x1
  | 0, f, hi => by
    rw [alibilaw23_LiveBest_l13, if_neg (by simp only [decide_eq_true_eq]; omega)]
  | k + 1, f, hi => by
    have h1 := ha.1
    have h2 := hl.1
    have hn := hg.funcs
    have hle := hg.le f
    have h3 : (List.getD a f d_api_Section).live.length = (List.getD p.funcs f []).length := (ha.2 f (by omega)).2
    have h4 : (List.getD l f d_api_Section).live.length = (List.getD p.funcs f []).length := (hl.2 f (by omega)).2
    have q := liveB_l18 a l f (by omega) (by omega) (by omega) (by omega) (fun i hi => hh f i (by omega) hi) (List.getD l f d_api_Section).live.length 0 (Nat.zero_add _)
    rw [show ((0 : Nat) : Int) = 0 from rfl] at q
    rw [alibilaw23_LiveBest_l13, if_pos (decide_eq_true (by omega)), if_pos (decide_eq_true (by omega)), if_pos (decide_eq_true (by omega)), if_pos (decide_eq_true (by omega)), Int.toNat_natCast f, if_neg (zero_of_sub2 (he f (by omega))), if_neg (zero_of_sub2 (hx f (by omega))), bind_some q, inc f (by omega)]
    exact liveB_l13 p hg a l ha hl he hx hh k (f + 1) (by omega)
theorem liveBest (p : api_Program) (l : List api_Section) : alibilaw23_LiveBest p l = some true := by
  unfold alibilaw23_LiveBest
  rw [bind_some awake23, if_neg (by decide)]
  obtain ⟨sm, s1, _⟩ := small_eq p
  rw [bind_some s1]
  cases sm with
  | false => rw [if_pos (by decide), bind_some awake23]
  | true =>
    rw [if_neg (by decide)]
    obtain ⟨fw, f1⟩ := few_eq l
    rw [bind_some f1]
    cases fw with
    | false => rw [if_pos (by decide), bind_some awake23]
    | true =>
      rw [if_neg (by decide)]
      obtain ⟨⟨ra, rb, re⟩, r1, r2, _⟩ := check_eqP p
      by_cases he : re = 0
      · obtain ⟨r5, hg⟩ := r2 he
        rw [r5] at r1
        obtain ⟨bg, h, _⟩ := begins_eq p hg r1
        obtain ⟨v, t, t1, t2, t3, t4, t5⟩ := findL_eq p hg h
        obtain ⟨hL, hS⟩ := found_laysL t3 t4 t5
        obtain ⟨m1, m2⟩ := may_pair p hg h
        have hk : DKeeps (funcsRL p bg 0 p.funcs.length) (base p.funcs p.funcs.length) v := by
          have := t2.keeps
          rw [List.length_replicate] at this
          exact this
        have hF := (keepsL_iff hg hL).1 hk
        have hz : ¬ ((0 : Int) != 0) = true := by decide
        rw [bind_some t1, if_neg hz, bind_some (m1 t hS), fineL_of t4 hF, if_neg hz, if_neg hz]
        by_cases hs : Shp p l
        · rw [bind_some (m1 l hs)]
          by_cases hw : (checkL p l bg).what = 0
          · rw [if_neg (neF hw)]
            have hFl := fineL_to hs.1 hw
            obtain ⟨w, w1⟩ := laysL_ex p l hs
            have hb := least_of t2 ((keepsL_iff hg w1).2 hFl)
            have hll := hs.1
            have q := liveB_l13 p hg t l hS hs (fun f hf => by
              have := hb (base p.funcs f : Int)
              rw [w1.ent f (by omega), hL.ent f (by omega)] at this
              exact this) (fun f hf => by
              have := hb ((base p.funcs f + 1 : Nat) : Int)
              rw [w1.exi f (by omega), hL.exi f (by omega)] at this
              exact this) (fun f i hf hi => by
              have h4 := (hs.2 f (by omega)).2
              have := hb ((base p.funcs f + 2 + i : Nat) : Int)
              rw [w1.nod f i (by omega) (by omega), hL.nod f i (by omega) (by omega)] at this
              exact this) l.length 0 (Nat.zero_add _)
            rw [show ((0 : Nat) : Int) = 0 from rfl] at q
            rw [bind_some q]
          · rw [if_pos (neT hw)]
        · rw [bind_some (m2 l hs), if_pos (by decide)]
      · rw [bind_some (findL_bad p r1 he), if_pos (neT he)]
        rfl
end Go.Bm.GoYtdifolgbppffpaa
