/- Laws of what the claim reaches. -/
import Derived.Test.YtdifolgbppffpaaHoldLa
namespace Go.Bm.GoYtdifolgbppffpaa
set_option autoImplicit false
set_option linter.unusedVariables false
set_option linter.unusedSimpArgs false
set_option maxRecDepth 100000
/-- A function's section of sets. -/
structure Found (p : api_Program) (v : List W32) (f : Nat) (s : api_Section) : Prop where
  ent : s.entry = gi v (base p.funcs f : Int)
  exi : s.exit = gi v ((base p.funcs f + 1 : Nat) : Int)
  hl : s.held.length = (List.getD p.funcs f []).length
  nod : ∀ i, i < (List.getD p.funcs f []).length → List.getD s.held i 0#32 = gi v ((base p.funcs f + 2 + i : Nat) : Int)
  lv : s.live = List.replicate (List.getD p.funcs f []).length 0#32
  le : s.liveEntry = 0#32
  lx : s.liveExit = 0#32
theorem find_l8 (p : api_Program) (hg : Good p) (bs : List Int) (hb : Bases p bs) (v : List W32) (hv : v.length = base p.funcs p.funcs.length) : ∀ (m f : Nat) (t : List api_Section), f + m = p.funcs.length → t.length = f → (∀ g, g < f → Found p v g (sec t g)) → ∃ t', hold_Find_l8 bs v t p.funcs (p.funcs.length : Int) (f : Int) = some t' ∧ t'.length = p.funcs.length ∧ ∀ g, g < p.funcs.length → Found p v g (sec t' g)
  | 0, f, t, h, hl, hget => by
    rw [hold_Find_l8, if_neg (by simp only [decide_eq_true_eq]; omega)]
    exact ⟨t, rfl, by omega, fun g hg => hget g (by omega)⟩
  | m + 1, f, t, h, hl, hget => by
    have hn := hg.funcs
    have hle := hg.le f
    have hb0 := base_lt (p := p) (f := f) (by omega) (k := 0) (by omega)
    have hb1 := base_lt (p := p) (f := f) (by omega) (k := 1) (by omega)
    obtain ⟨hd, q1, q2, q3⟩ := find_l12 p hg bs hb v hv t (List.replicate (List.getD p.funcs f []).length 0#32) (List.getD v (base p.funcs f) 0#32) (List.getD v (base p.funcs f + 1) 0#32) 0#32 0#32 f (by omega) p.funcs (p.funcs.length : Int) (f : Int) (List.getD p.funcs f []).length 0 [] (Nat.zero_add _) rfl (fun k hk => by omega)
    rw [show ((0 : Nat) : Int) = 0 from rfl] at q1
    rw [hold_Find_l8, if_pos (decide_eq_true (by omega)), if_pos (decide_eq_true (by omega)), if_pos (decide_eq_true (by omega)), bind_some (entry_eq hb (by omega)), if_pos (decide_eq_true (by omega)), if_pos (decide_eq_true (by omega)), bind_some (exit_eq hg hb (by omega)), if_pos (decide_eq_true (by omega)), if_pos (decide_eq_true (by omega)), Int.toNat_natCast f, if_pos (decide_eq_true (by omega)), if_pos (decide_eq_true (by simp only [reach]; omega)), Int.toNat_natCast, Int.toNat_natCast, Int.toNat_natCast, bind_some q1, if_pos (Nat.ble_eq_true_of_le (by simp only [List.length_singleton, reach]; omega)), inc f (by omega)]
    refine find_l8 p hg bs hb v hv m (f + 1) _ (by omega) (by rw [List.length_append, List.length_singleton]; omega) fun g hgf => ?_
    unfold sec
    rw [getD_snoc]
    split
    · rename_i e
      subst e
      rw [hl]
      exact ⟨getD_gi (by omega), getD_gi (by omega), q2, q3, rfl, rfl, rfl⟩
    · exact hget g (by omega)
theorem found_lays {p : api_Program} {v : List W32} {t : List api_Section} (hv : v.length = base p.funcs p.funcs.length) (hl : t.length = p.funcs.length) (h : ∀ g, g < p.funcs.length → Found p v g (sec t g)) : Lays p t v ∧ Shp p t :=
  ⟨⟨hv, fun f hf => (h f hf).ent.symm, fun f hf => (h f hf).exi.symm, fun f i hf hi => ((h f hf).nod i hi).symm⟩, hl, fun f hf => ⟨(h f hf).hl, by rw [(h f hf).lv, List.length_replicate]⟩⟩
/-- All locks of a program. -/
def topL (p : api_Program) : W32 := BitVec.setWidth 32 (((1#64) <<< p.locks.toNat) - 1#64)
theorem all_eq (p : api_Program) (h0 : 0 ≤ p.locks) (h1 : p.locks ≤ 32) : sets_All p.locks = some (topL p) := by
  unfold sets_All topL
  rw [if_neg (show ¬ 32 < p.locks by omega), if_neg (show ¬ 0 > p.locks by omega), if_pos (decide_eq_true (by omega))]
theorem find_eq (p : api_Program) (hg : Good p) {u : List W32} {fm : W32} (h : Both2 p u fm) : ∃ v t, hold_Find p = some (0, t) ∧ Gfp (funcsR p u fm 0 p.funcs.length) (List.replicate (base p.funcs p.funcs.length) (topL p)) v ∧ v.length = base p.funcs p.funcs.length ∧ t.length = p.funcs.length ∧ ∀ g, g < p.funcs.length → Found p v g (sec t g) := by
  have hn := hg.funcs
  have hlk := hg.locks
  have hbl := base_le hg p.funcs.length
  have hrl := funcsR_len hg u fm p.funcs.length 0
  obtain ⟨bs, b1, b2⟩ := lay_eq p hg
  obtain ⟨v, v1, v2⟩ := greatest_eq (base p.funcs p.funcs.length : Int) (topL p) (funcsR p u fm 0 p.funcs.length) (by omega)
  rw [if_pos (by omega), Int.toNat_natCast] at v2
  have hv : v.length = base p.funcs p.funcs.length := by rw [v2.len, List.length_replicate]
  obtain ⟨t, t1, t2, t3⟩ := find_l8 p hg bs b2 v hv p.funcs.length 0 [] (Nat.zero_add _) rfl (fun g h => by omega)
  rw [show ((0 : Nat) : Int) = 0 from rfl] at t1
  unfold hold_Find
  rw [bind_some (rules_eq p hg h), if_neg (show ¬ ((0 : Int) != 0) = true by decide), bind_some b1, bind_some (all_eq p hlk.1 (by omega)), bind_some v1, bind_some t1]
  exact ⟨v, t, rfl, v2, hv, t2, t3⟩
theorem find_bad (p : api_Program) {a b e : Int} (hk : prog_Check p = some (a, b, e)) (he : e ≠ 0) : hold_Find p = some (e, []) := by
  unfold hold_Find hold_Rules
  rw [bind_some (unlocks_bad p hk he), if_pos (neT he), bind_some rfl, if_pos (neT he)]
theorem gi_rep {n : Nat} {x : W32} {j : Int} (h0 : 0 ≤ j) (h1 : j < (n : Int)) : gi (List.replicate n x) j = x := by
  unfold gi
  rw [if_pos ⟨h0, by rw [List.length_replicate]; exact h1⟩]
  simp [List.getD, List.getElem?_replicate, show j.toNat < n by omega]
theorem gi_map_and (w : List W32) (m : W32) (j : Int) : gi (w.map (fun x => x &&& m)) j = gi w j &&& m := by
  unfold gi
  rw [List.length_map]
  split
  · rename_i h
    have : j.toNat < w.length := by omega
    simp [List.getD, this]
  · simp
theorem keeps_and {l : List flow_Rule} {n : Nat} {w : List W32} (m : W32) (hif : ∀ r ∈ l, r.if_ = 0#32) (h : Keeps l n w) : Keeps l n (w.map (fun x => x &&& m)) := by
  intro r hr h0 h1
  have h2 := h r hr h0 h1
  rw [gi_map_and]
  unfold rval at h2 ⊢
  rw [if_pos (.inl (hif r hr))] at h2 ⊢
  rw [gi_map_and, gi_map_and]
  intro i hi
  rw [BitVec.getLsbD_and, Bool.and_eq_true] at hi
  have h3 := h2 i hi.1
  simp only [BitVec.getLsbD_or, BitVec.getLsbD_and, Bool.or_eq_true, Bool.and_eq_true] at h3 ⊢
  rcases h3 with (⟨a, b⟩ | a) | a
  · exact .inl (.inl ⟨⟨a, hi.2⟩, b⟩)
  · exact .inl (.inr ⟨a, hi.2⟩)
  · exact .inr a
theorem sucR_if {fs : FS} {f : Nat} {js : List Int} {own also : Int} {keep th : W32} : ∀ r ∈ sucR fs f js own also keep th, r.if_ = 0#32 := fun r hr => by
  obtain ⟨y, _, rfl⟩ := List.mem_map.1 hr
  rfl
theorem funcsR_if {p : api_Program} {u : List W32} {fm : W32} {m f : Nat} : ∀ r ∈ funcsR p u fm f m, r.if_ = 0#32 := by
  intro r hr
  obtain ⟨k, _, _, h3⟩ := funcsR_mem.1 hr
  unfold funcR entR at h3
  rcases List.mem_append.1 h3 with h | h
  · split at h
    · rw [List.mem_singleton] at h; subst h; rfl
    · cases h
  · rcases List.mem_cons.1 h with h | h
    · subst h; rfl
    · obtain ⟨i, _, _, h5⟩ := nodesR_mem.1 h
      unfold nodeR at h5
      simp only [] at h5
      split at h5
      · exact sucR_if r h5
      · split at h5
        · exact sucR_if r h5
        · split at h5
          · rcases List.mem_cons.1 h5 with h6 | h6
            · subst h6; rfl
            · exact sucR_if r h6
          · split at h5
            · rcases List.mem_cons.1 h5 with h6 | h6
              · subst h6; rfl
              · exact sucR_if r h6
            · exact sucR_if r h5
/-- What keeps the rules is within the greatest, as far as the locks go. -/
theorem best_of {p : api_Program} {u : List W32} {fm : W32} {v w : List W32} (hv : Gfp (funcsR p u fm 0 p.funcs.length) (List.replicate (base p.funcs p.funcs.length) (topL p)) v) (hwl : w.length = base p.funcs p.funcs.length) (hw : Keeps (funcsR p u fm 0 p.funcs.length) (base p.funcs p.funcs.length) w) (j : Int) : sub (topL p &&& gi w j) (gi v j) := by
  have h1 := keeps_and (topL p) funcsR_if hw
  have h2 := hv.best (w.map (fun x => x &&& topL p)) (by rw [List.length_replicate]; exact h1) (fun j => by
    rw [gi_map_and]
    by_cases hj : 0 ≤ j ∧ j < (base p.funcs p.funcs.length : Int)
    · rw [gi_rep hj.1 hj.2]
      exact and_sub_r _ _
    · have : gi w j = 0#32 := by unfold gi; rw [if_neg (by rw [hwl]; exact hj)]
      rw [this]
      intro i hi
      simp at hi) j
  rw [gi_map_and] at h2
  intro i hi
  refine h2 i ?_
  simp only [BitVec.getLsbD_and, Bool.and_eq_true] at hi ⊢
  exact ⟨hi.2, hi.1⟩
theorem shaped_l4P (p : api_Program) (l : List api_Section) (hl : l.length = p.funcs.length) (hn : p.funcs.length ≤ 65536) : ∀ (m i : Nat), i + m = l.length → ∃ b, must_Shaped_l4 p.globals p.locks p.slots p.funcs l (l.length : Int) (i : Int) = some (if b = true then .x1 else .x0 false) ∧ (b = true ↔ ∀ f, i ≤ f → f < p.funcs.length → (sec l f).held.length = (List.getD p.funcs f []).length ∧ (sec l f).live.length = (List.getD p.funcs f []).length)
  | 0, i, h => by
    rw [must_Shaped_l4, if_neg (by simp only [decide_eq_true_eq]; omega)]
    exact ⟨true, rfl, ⟨fun _ f h1 h2 => by omega, fun _ => rfl⟩⟩
  | m + 1, i, h => by
    rw [must_Shaped_l4, if_pos (decide_eq_true (by omega)), if_pos (decide_eq_true (by omega)), if_pos (decide_eq_true (by omega)), if_pos (decide_eq_true (by omega)), Int.toNat_natCast i, inc i (by omega)]
    by_cases h1 : (List.getD l i d_api_Section).held.length = (List.getD p.funcs i []).length
    · by_cases h2 : (List.getD l i d_api_Section).live.length = (List.getD p.funcs i []).length
      · rw [if_neg (neF (by omega)), if_neg (neF (by omega))]
        obtain ⟨b, q1, q3⟩ := shaped_l4P p l hl hn m (i + 1) (by omega)
        refine ⟨b, q1, ?_⟩
        rw [q3]
        constructor
        · intro h3 f h4 h5
          rcases Nat.eq_or_lt_of_le h4 with rfl | h6
          · exact ⟨h1, h2⟩
          · exact h3 f h6 h5
        · exact fun h3 f h4 h5 => h3 f (by omega) h5
      · rw [if_neg (neF (by omega)), if_pos (neT (by omega))]
        exact ⟨false, rfl, ⟨(fun h => by cases h), fun h => absurd (h i (Nat.le_refl _) (by omega)).2 h2⟩⟩
    · rw [if_pos (neT (by omega))]
      exact ⟨false, rfl, ⟨(fun h => by cases h), fun h => absurd (h i (Nat.le_refl _) (by omega)).1 h1⟩⟩
theorem shaped_eqP (p : api_Program) (l : List api_Section) (hn : p.funcs.length ≤ 65536) : ∃ b, must_Shaped p l = some b ∧ (b = true ↔ Shp p l) := by
  unfold must_Shaped Shp
  by_cases hl : l.length = p.funcs.length
  · rw [if_neg (neF (by rw [hl]))]
    obtain ⟨b, q1, q3⟩ := shaped_l4P p l hl hn l.length 0 (by omega)
    rw [show ((0 : Nat) : Int) = 0 from rfl] at q1
    rw [bind_some q1]
    refine ⟨b, ?_, ?_⟩
    · cases b <;> rfl
    · rw [q3]
      exact ⟨fun h => ⟨hl, fun f hf => h f (Nat.zero_le _) hf⟩, fun h f _ hf => h.2 f hf⟩
  · rw [if_pos (neT (by omega))]
    exact ⟨false, rfl, ⟨(fun h => by cases h), fun h => absurd h.1 hl⟩⟩
theorem must_pair (p : api_Program) (hg : Good p) {u : List W32} {fm : W32} (h : Both2 p u fm) : (∀ l, Shp p l → must_Check p l = some (checkW p l u fm, 0)) ∧ ∀ l, ¬ Shp p l → must_Check p l = some (⟨-1, -1, 1⟩, 0) := by
  have hn := hg.funcs.2
  obtain ⟨x, x1, rfl⟩ := h.beg
  refine ⟨fun l hs => ?_, fun l hs => ?_⟩
  · obtain ⟨b, b1, b2⟩ := shaped_eqP p l (by omega)
    have hb := b2.2 hs
    have h8 := must_l8 p hg l hs u h.ul (x ||| one 0) l.length 0 (by omega)
    rw [show ((0 : Nat) : Int) = 0 from rfl] at h8
    unfold must_Check
    rw [bind_some h.unl, if_neg (show ¬ ((0 : Int) != 0) = true by decide), bind_some b1, hb, if_neg (by decide), bind_some x1, bind_some (one_eq 0), bind_some h8]
    unfold checkW
    cases findO (funcO p l u (x ||| one 0)) 0 l.length with
    | some y => rfl
    | none => rfl
  · obtain ⟨b, b1, b2⟩ := shaped_eqP p l (by omega)
    have hb : b = false := by
      cases b with
      | false => rfl
      | true => exact absurd (b2.1 rfl) hs
    unfold must_Check
    rw [bind_some h.unl, if_neg (show ¬ ((0 : Int) != 0) = true by decide), bind_some b1, hb, if_pos (by decide)]
def exP : api_Program := ⟨0, 1, 0, [[⟨3, 0, 1, 0⟩, ⟨9, 0, 0, 0⟩]]⟩
def exS : List api_Section := [⟨0#32, 1#32, [0#32, 1#32], 0#32, 0#32, [0#32, 0#32]⟩]
theorem exCheck : prog_Check exP = some (0, 0, 0) := prog_Check_le 40 _ _ (by kernel_rfl)
theorem exGood : Good exP := by
  obtain ⟨r, r1, r2, _⟩ := check_eqP exP
  rw [exCheck] at r1
  cases r1
  exact (r2 rfl).2
theorem exFine (u : List W32) (fm : W32) : Fine exP exS u fm := by
  intro f hf
  have : f = 0 := by
    have : f < 1 := hf
    omega
  subst this
  refine ⟨fun h => h.2 rfl, by decide, fun i hi => ?_⟩
  have : i < 2 := hi
  rw [nodeW_iff]
  match i, this with
  | 0, _ => exact ⟨by decide, by decide, by kernel_rfl⟩
  | 1, _ => exact ⟨by decide, by decide, rfl⟩
theorem awake22 : alibilaw22_awake = some true := by
  obtain ⟨u, fm, h⟩ := both2 exP exGood exCheck
  obtain ⟨v, t, t1, t2, t3, t4, t5⟩ := find_eq exP exGood h
  obtain ⟨hL, hS⟩ := found_lays t3 t4 t5
  have hk : Keeps (funcsR exP u fm 0 exP.funcs.length) (base exP.funcs exP.funcs.length) v := by
    have := t2.keeps
    rw [List.length_replicate] at this
    exact this
  have hF := (keeps_iff exGood hL).1 hk
  have hSx : Shp exP exS := by
    refine ⟨rfl, fun f hf => ?_⟩
    have : f = 0 := by
      have : f < 1 := hf
      omega
    subst this
    exact ⟨rfl, rfl⟩
  obtain ⟨w, w1⟩ := lays_ex exP exS hSx
  have hb := best_of t2 w1.len ((keeps_iff exGood w1).2 (exFine u fm))
  have z0 : 0 < exP.funcs.length := by decide
  have l0 : (List.getD exP.funcs 0 []).length = 2 := rfl
  obtain ⟨f1, f2, f3⟩ := hF 0 z0
  obtain ⟨a1, a2, a3⟩ := nodeW_iff.1 (f3 0 (by decide))
  obtain ⟨b1, b2, b3⟩ := nodeW_iff.1 (f3 1 (by decide))
  have hfm : fm.getLsbD 0 = true := by
    obtain ⟨x, _, rfl⟩ := h.beg
    rw [BitVec.getLsbD_or, Bool.or_eq_true]
    exact .inr (by decide)
  have e0 : (sec t 0).entry = 0#32 := Classical.byContradiction fun hne => f1 ⟨hfm, hne⟩
  have h0 : hld t 0 0 = 0#32 := by
    rw [e0] at f2
    exact subb_zero'.1 f2
  have h1 : hld t 0 1 = 1#32 := by
    have c1 : subb (hld t 0 1) (hld t 0 0 ||| one 0) = true := by
      have := List.all_eq_true.1 a3 1 (by decide)
      exact this
    rw [h0] at c1
    have c2 := hb ((base exP.funcs 0 + 2 + 1 : Nat) : Int)
    rw [w1.nod 0 1 z0 (by decide), hL.nod 0 1 z0 (by decide)] at c2
    refine sub.antisymm ?_ ?_
    · exact subb_iff.1 (show subb (hld t 0 1) 1#32 = true from c1)
    · exact subb_iff.1 (show subb 1#32 (hld t 0 1) = true from subb_iff.2 c2)
  have h2 : (sec t 0).exit = 1#32 := by
    have c1 := b2 rfl
    rw [h1] at c1
    have c2 := hb ((base exP.funcs 0 + 1 : Nat) : Int)
    rw [w1.exi 0 z0, hL.exi 0 z0] at c2
    refine sub.antisymm (subb_iff.1 c1) ?_
    exact subb_iff.1 (show subb 1#32 (sec t 0).exit = true from subb_iff.2 c2)
  have hhl : (sec t 0).held.length = 2 := (t5 0 z0).hl
  have htl : t.length = 1 := t4
  unfold alibilaw22_awake
  rw [bind_some (show hold_Find (api_Program.mk 0 1 0 ([[api_Node.mk 3 0 1 0, api_Node.mk 9 0 0 0]])) = some (0, t) from t1)]
  simp only []
  rw [if_pos (by decide), if_pos (eqT (by omega)), if_pos (decide_eq_true (by omega)), if_pos (eqT (show (((List.getD t 0 d_api_Section).held.length : Nat) : Int) = 2 by rw [show (List.getD t 0 d_api_Section).held.length = 2 from hhl]; rfl)), if_pos (decide_eq_true (show (0 : Int) < (((List.getD t 0 d_api_Section).held.length : Nat) : Int) by rw [show (List.getD t 0 d_api_Section).held.length = 2 from hhl]; decide)), if_pos (show (List.getD (List.getD t 0 d_api_Section).held 0 0#32 == 0#32) = true by rw [show List.getD (List.getD t 0 d_api_Section).held 0 0#32 = 0#32 from h0]; decide), if_pos (decide_eq_true (show (1 : Int) < (((List.getD t 0 d_api_Section).held.length : Nat) : Int) by rw [show (List.getD t 0 d_api_Section).held.length = 2 from hhl]; decide)), if_pos (show (List.getD (List.getD t 0 d_api_Section).held 1 0#32 == 1#32) = true by rw [show List.getD (List.getD t 0 d_api_Section).held 1 0#32 = 1#32 from h1]; decide), show (List.getD t 0 d_api_Section).exit = 1#32 from h2]
  rfl
theorem zero_of_sub {m a b : W32} (h : sub (m &&& a) b) : ¬ (((m &&& a) &&& ~~~b) != 0#32) = true := by
  rw [(sub_iff _ _).1 h]
  decide
theorem best_l19 (a l : List api_Section) (m : W32) (f : Nat) (hf : f < l.length) (hfa : f < a.length) (hh : (List.getD a f d_api_Section).held.length = (List.getD l f d_api_Section).held.length) (hn : (List.getD l f d_api_Section).held.length ≤ 65536) (h : ∀ i, i < (List.getD l f d_api_Section).held.length → sub (m &&& hld l f i) (hld a f i)) : ∀ (k i : Nat), i + k = (List.getD l f d_api_Section).held.length → alibilaw22_HoldBest_l19 a l m (f : Int) (i : Int) = some .x1
  | 0, i, hi => by
    rw [alibilaw22_HoldBest_l19, if_pos (decide_eq_true (by omega)), if_pos (decide_eq_true (by omega)), Int.toNat_natCast f, if_neg (by simp only [decide_eq_true_eq]; omega)]
  | k + 1, i, hi => by
    have h1 := h i (by omega)
    rw [alibilaw22_HoldBest_l19, if_pos (decide_eq_true (by omega)), if_pos (decide_eq_true (by omega)), Int.toNat_natCast f, if_pos (decide_eq_true (by omega)), if_pos (decide_eq_true (by omega)), if_pos (decide_eq_true (by omega)), if_pos (decide_eq_true (by omega)), if_pos (decide_eq_true (by omega)), Int.toNat_natCast i, if_neg (zero_of_sub h1), inc i (by omega)]
    exact best_l19 a l m f hf hfa hh hn h k (i + 1) (by omega)
theorem best_l14 (p : api_Program) (hg : Good p) (a l : List api_Section) (ha : Shp p a) (hl : Shp p l) (m : W32) (he : ∀ f, f < l.length → sub (m &&& (sec l f).entry) (sec a f).entry) (hx : ∀ f, f < l.length → sub (m &&& (sec l f).exit) (sec a f).exit) (hh : ∀ f i, f < l.length → i < (sec l f).held.length → sub (m &&& hld l f i) (hld a f i)) : ∀ (k f : Nat), f + k = l.length → alibilaw22_HoldBest_l14 a l m (f : Int) = some .x1
  | 0, f, hi => by
    rw [alibilaw22_HoldBest_l14, if_neg (by simp only [decide_eq_true_eq]; omega)]
  | k + 1, f, hi => by
    have h1 := ha.1
    have h2 := hl.1
    have hn := hg.funcs
    have hle := hg.le f
    have h3 : (List.getD a f d_api_Section).held.length = (List.getD p.funcs f []).length := (ha.2 f (by omega)).1
    have h4 : (List.getD l f d_api_Section).held.length = (List.getD p.funcs f []).length := (hl.2 f (by omega)).1
    have q := best_l19 a l m f (by omega) (by omega) (by omega) (by omega) (fun i hi => hh f i (by omega) hi) (sec l f).held.length 0 (Nat.zero_add _)
    rw [show ((0 : Nat) : Int) = 0 from rfl] at q
    rw [alibilaw22_HoldBest_l14, if_pos (decide_eq_true (by omega)), if_pos (decide_eq_true (by omega)), if_pos (decide_eq_true (by omega)), if_pos (decide_eq_true (by omega)), Int.toNat_natCast f, if_neg (zero_of_sub (he f (by omega))), if_neg (zero_of_sub (hx f (by omega))), bind_some q, inc f (by omega)]
    exact best_l14 p hg a l ha hl m he hx hh k (f + 1) (by omega)
theorem holdBest (p : api_Program) (l : List api_Section) : alibilaw22_HoldBest p l = some true := by
  unfold alibilaw22_HoldBest
  rw [bind_some awake22, if_neg (by decide)]
  obtain ⟨sm, s1, _⟩ := small_eq p
  rw [bind_some s1]
  cases sm with
  | false => rw [if_pos (by decide), bind_some awake22]
  | true =>
    rw [if_neg (by decide)]
    obtain ⟨fw, f1⟩ := few_eq l
    rw [bind_some f1]
    cases fw with
    | false => rw [if_pos (by decide), bind_some awake22]
    | true =>
      rw [if_neg (by decide)]
      obtain ⟨⟨ra, rb, re⟩, r1, r2, _⟩ := check_eqP p
      by_cases he : re = 0
      · obtain ⟨r5, hg⟩ := r2 he
        rw [r5] at r1
        obtain ⟨u, fm, h⟩ := both2 p hg r1
        obtain ⟨v, t, t1, t2, t3, t4, t5⟩ := find_eq p hg h
        obtain ⟨hL, hS⟩ := found_lays t3 t4 t5
        obtain ⟨m1, m2⟩ := must_pair p hg h
        have hk : Keeps (funcsR p u fm 0 p.funcs.length) (base p.funcs p.funcs.length) v := by
          have := t2.keeps
          rw [List.length_replicate] at this
          exact this
        have hF := (keeps_iff hg hL).1 hk
        have hz : ¬ ((0 : Int) != 0) = true := by decide
        rw [bind_some t1, if_neg hz, bind_some (m1 t hS), fine_of t4 hF, if_neg hz, if_neg hz]
        by_cases hs : Shp p l
        · rw [bind_some (m1 l hs)]
          by_cases hw : (checkW p l u fm).what = 0
          · rw [if_neg (neF hw), if_pos (decide_eq_true hg.locks.1)]
            have hFl := fine_to hs.1 hw
            obtain ⟨w, w1⟩ := lays_ex p l hs
            have hb := best_of t2 w1.len ((keeps_iff hg w1).2 hFl)
            have hll := hs.1
            have q := best_l14 p hg t l hS hs (topL p) (fun f hf => by
              have := hb (base p.funcs f : Int)
              rw [w1.ent f (by omega), hL.ent f (by omega)] at this
              exact this) (fun f hf => by
              have := hb ((base p.funcs f + 1 : Nat) : Int)
              rw [w1.exi f (by omega), hL.exi f (by omega)] at this
              exact this) (fun f i hf hi => by
              have h4 := (hs.2 f (by omega)).1
              have := hb ((base p.funcs f + 2 + i : Nat) : Int)
              rw [w1.nod f i (by omega) (by omega), hL.nod f i (by omega) (by omega)] at this
              exact this) l.length 0 (Nat.zero_add _)
            rw [show ((0 : Nat) : Int) = 0 from rfl] at q
            rw [bind_some (show alibilaw22_HoldBest_l14 t l (BitVec.setWidth 32 (((1#64) <<< (Int.toNat p.locks)) - (1#64))) 0 = _ from q)]
          · rw [if_pos (neT hw)]
        · rw [bind_some (m2 l hs), if_pos (by decide)]
      · rw [bind_some (find_bad p r1 he), if_pos (neT he)]
        rfl
end Go.Bm.GoYtdifolgbppffpaa
