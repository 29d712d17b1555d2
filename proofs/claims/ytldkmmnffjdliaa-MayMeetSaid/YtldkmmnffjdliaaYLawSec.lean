/- Sections: what must be held; the program's checks and the document's. -/
import Derived.Test.YtldkmmnffjdliaaYLawGatherB
namespace Go.Bm.GoYtldkmmnffjdliaa
set_option autoImplicit false
set_option linter.unusedVariables false
set_option linter.unusedSimpArgs false
set_option maxRecDepth 100000
abbrev nde (p : api_Program) (f i : Nat) : api_Node := List.getD (List.getD p.funcs f []) i d_api_Node
abbrev sec (l : List api_Section) (f : Nat) : api_Section := List.getD l f d_api_Section
abbrev hld (l : List api_Section) (f i : Nat) : W32 := List.getD (sec l f).held i 0#32
def subb (a b : W32) : Bool := (a &&& ~~~b) == 0#32
theorem subb_iff {a b : W32} : subb a b = true ↔ ∀ i, a.getLsbD i = true → b.getLsbD i = true := by
  unfold subb
  rw [beq_iff_eq]
  constructor
  · intro h i hi
    have h1 := congrArg (fun v => BitVec.getLsbD v i) h
    have hlt := bit_lt hi
    simp only [BitVec.getLsbD_and, BitVec.getLsbD_not, hlt, decide_true, Bool.true_and, BitVec.getLsbD_zero, hi] at h1
    simpa using h1
  · intro h
    have := within_w h
    simpa using this
theorem within_eq2 (a b : W32) : sets_Within a b = some (subb a b) := rfl
theorem refwithin_l2 (a b : W32) : ∀ (m i : Nat), i + m = 32 → ∃ c, alibiref03_Within_l2 a b (i : Int) = some (if c = true then .x1 else .x0 false) ∧ (c = true ↔ ∀ k, i ≤ k → a.getLsbD k = true → b.getLsbD k = true)
  | 0, i, h => by
    rw [alibiref03_Within_l2, if_neg (by simp only [decide_eq_true_eq]; omega)]
    refine ⟨true, rfl, ⟨fun _ k hk ha => ?_, fun _ => rfl⟩⟩
    have := bit_lt ha
    omega
  | m + 1, i, h => by
    obtain ⟨c, ih, hc⟩ := refwithin_l2 a b m (i + 1) (by omega)
    rw [alibiref03_Within_l2, if_pos (decide_eq_true (by omega)), inc i (by omega), bind_some (show alibiref03_Has a (i : Int) = some (a.getLsbD i) by rw [refhas_eq, if_pos (by omega), Int.toNat_natCast]), ih]
    have skip : (a.getLsbD i = true → b.getLsbD i = true) → (c = true ↔ ∀ k, i ≤ k → a.getLsbD k = true → b.getLsbD k = true) := fun h0 => by
      rw [hc]
      exact ⟨fun h1 k hk ha => by
        rcases Nat.eq_or_lt_of_le hk with rfl | hk
        · exact h0 ha
        · exact h1 k hk ha, fun h1 k hk => h1 k (by omega)⟩
    by_cases ha : a.getLsbD i = true
    · rw [if_pos ha, bind_some (show alibiref03_Has b (i : Int) = some (b.getLsbD i) by rw [refhas_eq, if_pos (by omega), Int.toNat_natCast])]
      by_cases hb : b.getLsbD i = true
      · rw [if_neg (by rw [hb]; decide)]
        exact ⟨c, rfl, skip fun _ => hb⟩
      · rw [if_pos (by simpa using hb)]
        exact ⟨false, rfl, ⟨(fun h => by cases h), fun h1 => absurd (h1 i (Nat.le_refl _) ha) hb⟩⟩
    · rw [if_neg ha]
      exact ⟨c, rfl, skip fun h => absurd h ha⟩
theorem refwithin_eq (a b : W32) : alibiref03_Within a b = some (subb a b) := by
  obtain ⟨c, h, hc⟩ := refwithin_l2 a b 32 0 rfl
  rw [show ((0 : Nat) : Int) = 0 from rfl] at h
  unfold alibiref03_Within
  rw [bind_some h]
  have : subb a b = c := by
    rw [Bool.eq_iff_iff, subb_iff, hc]
    exact ⟨fun h k _ => h k, fun h k => h k (Nat.zero_le _)⟩
  rw [this]
  cases c <;> rfl
def succ (x : api_Node) : List Int := if x.kind = 9 then [] else if x.kind = 8 then [x.next, x.alt] else [x.next]
theorem succ_eq (x : api_Node) : prog_Succ x = some (succ x) := by
  unfold prog_Succ succ
  by_cases h : x.kind = 9
  · rw [if_pos (eqT h), if_pos h]
  · rw [if_neg (eqF h), if_neg h]
    by_cases h8 : x.kind = 8
    · rw [if_pos (eqT h8), if_pos h8]
    · rw [if_neg (eqF h8), if_neg h8]
theorem refsucc_eq (x : api_Node) : alibiref05_Succ x = some (succ x) := by
  unfold alibiref05_Succ succ
  by_cases h : x.kind = 9
  · rw [if_pos (eqT h), if_pos h]
  · rw [if_neg (eqF h), if_neg h]
    by_cases h8 : x.kind = 8
    · rw [if_pos (eqT h8), if_pos h8]
    · rw [if_neg (eqF h8), if_neg h8]
theorem succ_len (x : api_Node) : (succ x).length ≤ 2 := by
  unfold succ
  split
  · simp
  · split <;> simp
theorem succ_ok {p : api_Program} {x : api_Node} {n : Int} (h : NodeOk p x n) (hn : 1 ≤ n) : ∀ y ∈ succ x, 0 ≤ y ∧ y < n := by
  intro y hy
  unfold succ at hy
  split at hy
  · cases hy
  · rename_i h9
    have h1 := h.next h9
    split at hy
    · rename_i h8
      have h2 := h.alt h8
      simp at hy
      rcases hy with rfl | rfl <;> omega
    · simp at hy
      subst hy; omega
/-! ### shapes -/
def Shp (p : api_Program) (l : List api_Section) : Prop := l.length = p.funcs.length ∧ ∀ f, f < p.funcs.length → (sec l f).held.length = (List.getD p.funcs f []).length ∧ (sec l f).live.length = (List.getD p.funcs f []).length
theorem neT {a b : Int} (h : a ≠ b) : ((a : Int) != b) = true := by simpa using h
theorem neF {a b : Int} (h : a = b) : ¬ ((a : Int) != b) = true := by simpa using h
theorem shaped_l4 (p : api_Program) (l : List api_Section) (hl : l.length = p.funcs.length) (hn : p.funcs.length ≤ 65536) : ∀ (m i : Nat), i + m = l.length → ∃ b, must_Shaped_l4 p.globals p.locks p.slots p.funcs l (l.length : Int) (i : Int) = some (if b = true then .x1 else .x0 false) ∧ alibiref15_Shaped_l4 p.globals p.locks p.slots p.funcs l (i : Int) = some (if b = true then .x1 else .x0 false) ∧ (b = true ↔ ∀ f, i ≤ f → f < p.funcs.length → (sec l f).held.length = (List.getD p.funcs f []).length ∧ (sec l f).live.length = (List.getD p.funcs f []).length)
  | 0, i, h => by
    rw [must_Shaped_l4, if_neg (by simp only [decide_eq_true_eq]; omega), alibiref15_Shaped_l4, if_neg (by simp only [decide_eq_true_eq]; omega)]
    exact ⟨true, rfl, rfl, ⟨fun _ f h1 h2 => by omega, fun _ => rfl⟩⟩
  | m + 1, i, h => by
    rw [must_Shaped_l4, if_pos (decide_eq_true (by omega)), if_pos (decide_eq_true (by omega)), if_pos (decide_eq_true (by omega)), if_pos (decide_eq_true (by omega)), alibiref15_Shaped_l4, if_pos (decide_eq_true (by omega)), if_pos (decide_eq_true (by omega)), if_pos (decide_eq_true (by omega)), if_pos (decide_eq_true (by omega)), Int.toNat_natCast i, inc i (by omega)]
    by_cases h1 : (List.getD l i d_api_Section).held.length = (List.getD p.funcs i []).length
    · by_cases h2 : (List.getD l i d_api_Section).live.length = (List.getD p.funcs i []).length
      · rw [if_neg (neF (by omega)), if_neg (neF (by omega)), if_neg (neF (by omega)), if_neg (neF (by omega))]
        obtain ⟨b, q1, q2, q3⟩ := shaped_l4 p l hl hn m (i + 1) (by omega)
        refine ⟨b, q1, q2, ?_⟩
        rw [q3]
        constructor
        · intro h3 f h4 h5
          rcases Nat.eq_or_lt_of_le h4 with rfl | h6
          · exact ⟨h1, h2⟩
          · exact h3 f h6 h5
        · exact fun h3 f h4 h5 => h3 f (by omega) h5
      · rw [if_neg (neF (by omega)), if_pos (neT (by omega)), if_neg (neF (by omega)), if_pos (neT (by omega))]
        exact ⟨false, rfl, rfl, ⟨(fun h => by cases h), fun h => absurd (h i (Nat.le_refl _) (by omega)).2 h2⟩⟩
    · rw [if_pos (neT (by omega)), if_pos (neT (by omega))]
      exact ⟨false, rfl, rfl, ⟨(fun h => by cases h), fun h => absurd (h i (Nat.le_refl _) (by omega)).1 h1⟩⟩
theorem shaped_eq (p : api_Program) (l : List api_Section) (hn : p.funcs.length ≤ 65536) : ∃ b, must_Shaped p l = some b ∧ alibiref15_Shaped p l = some b ∧ (b = true ↔ Shp p l) := by
  unfold must_Shaped alibiref15_Shaped Shp
  by_cases hl : l.length = p.funcs.length
  · rw [if_neg (neF (by rw [hl])), if_neg (neF (by rw [hl]))]
    obtain ⟨b, q1, q2, q3⟩ := shaped_l4 p l hl hn l.length 0 (by omega)
    rw [show ((0 : Nat) : Int) = 0 from rfl] at q1 q2
    rw [bind_some q1, bind_some q2]
    refine ⟨b, ?_, ?_, ?_⟩
    · cases b <;> rfl
    · cases b <;> rfl
    · rw [q3]
      exact ⟨fun h => ⟨hl, fun f hf => h f (Nat.zero_le _) hf⟩, fun h f _ hf => h.2 f hf⟩
  · rw [if_pos (neT (by omega)), if_pos (neT (by omega))]
    exact ⟨false, rfl, rfl, ⟨(fun h => by cases h), fun h => absurd h.1 hl⟩⟩
theorem few_l4 (l : List api_Section) (hl : l.length ≤ 65536) : ∀ (m i : Nat), i + m = l.length → alibiref15_Few_l4 l (i : Int) = some .x1 ∨ alibiref15_Few_l4 l (i : Int) = some (.x0 false)
  | 0, i, h => by
    rw [alibiref15_Few_l4, if_neg (by simp only [decide_eq_true_eq]; omega)]
    exact .inl rfl
  | m + 1, i, h => by
    rw [alibiref15_Few_l4, if_pos (decide_eq_true (by omega)), if_pos (decide_eq_true (by omega)), if_pos (decide_eq_true (by omega)), inc i (by omega)]
    split
    · exact .inr rfl
    · split
      · exact .inr rfl
      · exact few_l4 l hl m (i + 1) (by omega)
theorem few_eq (l : List api_Section) : ∃ b, alibiref15_Few l = some b := by
  unfold alibiref15_Few
  by_cases h : (l.length : Int) > 40
  · rw [if_pos (decide_eq_true h)]; exact ⟨false, rfl⟩
  · rw [if_neg (by simpa using h)]
    have := few_l4 l (by omega) l.length 0 (by omega)
    rw [show ((0 : Nat) : Int) = 0 from rfl] at this
    rcases this with h1 | h1
    · rw [bind_some h1]; exact ⟨_, rfl⟩
    · rw [bind_some h1]; exact ⟨_, rfl⟩
end Go.Bm.GoYtldkmmnffjdliaa
