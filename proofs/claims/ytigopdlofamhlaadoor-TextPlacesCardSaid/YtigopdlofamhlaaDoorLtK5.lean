/- Programs that may be: the program tells of each what the document tells. -/
import Derived.Test.YtigopdlofamhlaaDoorLtK4
namespace Go.Bm.GoYtigopdlofamhlaaDoor
set_option autoImplicit false
set_option linter.unusedVariables false
set_option linter.unusedSimpArgs false
set_option maxRecDepth 100000
theorem check_l23 (p : api_Program) (hc : CallsOk p.funcs) (hlen : ∀ f, (List.getD p.funcs f []).length ≤ 65536) (t : List (List Int)) (ht : t.length = p.funcs.length) (hr : ∀ x, x < p.funcs.length → (List.getD t x []).length = p.funcs.length) (htb : ∀ x y, x < p.funcs.length → (TB t x y ↔ Trans p.funcs x y)) (x5 : Int) (f : Nat) (hf : f < p.funcs.length) :
    ∀ (m i : Nat), i + m = (List.getD p.funcs f []).length → alibiref05_Check_l23 t p.globals p.locks p.slots p.funcs x5 (f : Int) (i : Int) = some (match find (badb p.funcs f) i m with | some k => .x0 k 8 | none => .x1)
  | 0, i, h => by
    rw [alibiref05_Check_l23, if_pos (decide_eq_true (by omega)), if_pos (decide_eq_true (by omega)), Int.toNat_natCast, if_neg (by simp only [decide_eq_true_eq]; omega)]
    rfl
  | m + 1, i, h => by
    have ih := check_l23 p hc hlen t ht hr htb x5 f hf m (i + 1) (by omega)
    have hl := hlen f
    rw [alibiref05_Check_l23, if_pos (decide_eq_true (by omega)), if_pos (decide_eq_true (by omega))]
    simp only [Int.toNat_natCast]
    rw [if_pos (decide_eq_true (by omega)), if_pos (decide_eq_true (by omega)), if_pos (decide_eq_true (by omega)), inc i (by omega), ih, find_succ]
    by_cases hk : (List.getD (List.getD p.funcs f []) i d_api_Node).kind = 7
    · have harg := hc f i hf (by omega) hk
      obtain ⟨b, hb⟩ : ∃ b : Nat, (List.getD (List.getD p.funcs f []) i d_api_Node).arg = (b : Int) := ⟨_, (Int.toNat_of_nonneg harg.1).symm⟩
      rw [if_pos (eqT hk)]
      simp only [hb] at harg ⊢
      have hiff : badb p.funcs f i = true ↔ (b = f ∨ TB t b f) := by
        rw [badb_iff]
        constructor
        · rintro ⟨_, a, h1, h2⟩
          have hab : a = b := by omega
          subst hab
          cases h2 with
          | refl _ => exact .inl rfl
          | step _ c _ e k => exact .inr ((htb a f (by omega)).2 ⟨c, e, k⟩)
        · intro h1
          refine ⟨hk, b, hb, ?_⟩
          rcases h1 with rfl | h1
          · exact .refl _
          · obtain ⟨c, e, k⟩ := (htb b f (by omega)).1 h1
            exact .step _ _ _ e k
      by_cases hbf : b = f
      · rw [if_pos (eqT (by omega)), if_pos (hiff.2 (.inl hbf))]
      · have hrb := hr b (by omega)
        rw [if_neg (eqF (by omega)), if_pos (decide_eq_true (by omega)), if_pos (decide_eq_true (by omega)), Int.toNat_natCast, if_pos (decide_eq_true (by omega))]
        by_cases h2 : TB t b f
        · rw [if_pos (eqT h2), if_pos (hiff.2 (.inr h2))]
        · rw [if_neg (eqF h2), if_neg (fun h => (hiff.1 h).elim hbf h2)]
    · rw [if_neg (eqF hk), if_neg (fun h => hk (badb_iff.1 h).1)]
theorem check_l20 (p : api_Program) (hc : CallsOk p.funcs) (hlen : ∀ f, (List.getD p.funcs f []).length ≤ 65536) (hn : p.funcs.length ≤ 65536) (t : List (List Int)) (ht : t.length = p.funcs.length) (hr : ∀ x, x < p.funcs.length → (List.getD t x []).length = p.funcs.length) (htb : ∀ x y, x < p.funcs.length → (TB t x y ↔ Trans p.funcs x y)) :
    ∀ (m i : Nat), i + m = p.funcs.length → alibiref05_Check_l20 t p.globals p.locks p.slots p.funcs (p.funcs.length : Int) (i : Int) = some (match findO (bad2 p.funcs) i m with | some (f, k) => .x0 f k 8 | none => .x1)
  | 0, i, h => by rw [alibiref05_Check_l20, if_neg (by simp only [decide_eq_true_eq]; omega)]; rfl
  | m + 1, i, h => by
    have ih := check_l20 p hc hlen hn t ht hr htb m (i + 1) (by omega)
    have h2 := check_l23 p hc hlen t ht hr htb (p.funcs.length : Int) i (by omega) (List.getD p.funcs i []).length 0 (by omega)
    rw [show ((0 : Nat) : Int) = 0 from rfl] at h2
    rw [alibiref05_Check_l20, if_pos (decide_eq_true (by omega)), bind_some h2, inc i (by omega), ih, findO_succ]
    unfold bad2
    cases find (badb p.funcs i) 0 (List.getD p.funcs i []).length with
    | some k => rfl
    | none => rfl
/-- A program that may be. -/
structure Good (p : api_Program) : Prop where
  globals : 0 ≤ p.globals ∧ p.globals ≤ 16
  locks : 0 ≤ p.locks ∧ p.locks ≤ 16
  slots : 0 ≤ p.slots ∧ p.slots ≤ 8
  funcs : 0 < p.funcs.length ∧ p.funcs.length ≤ 16
  len : ∀ f, f < p.funcs.length → 0 < (List.getD p.funcs f []).length ∧ (List.getD p.funcs f []).length ≤ 64
  node : ∀ f i, f < p.funcs.length → i < (List.getD p.funcs f []).length → NodeOk p (List.getD (List.getD p.funcs f []) i d_api_Node) ((List.getD p.funcs f []).length : Int)
  acyc : ∀ f i, f < p.funcs.length → i < (List.getD p.funcs f []).length → ¬ Bad p.funcs f i
theorem Good.calls {p : api_Program} (h : Good p) : CallsOk p.funcs := fun f i h1 h2 h3 => (h.node f i h1 h2).call h3
theorem Good.le {p : api_Program} (h : Good p) (f : Nat) : (List.getD p.funcs f []).length ≤ 64 := by
  rcases Nat.lt_or_ge f p.funcs.length with h1 | h1
  · exact (h.len f h1).2
  · rw [getD_out h1]; simp
theorem check_eq (p : api_Program) : ∃ r, prog_Check p = some r ∧ alibiref05_Check p = some r ∧ (r.2.2 = 0 → r = (0, 0, 0) ∧ Good p) ∧ 0 ≤ r.2.2 ∧ r.2.2 ≤ 8 := by
  unfold prog_Check alibiref05_Check
  have out : ∀ (c : Bool) (v : Int × Int × Int) (a b : Option (Int × Int × Int)), (¬ c = true → ∃ r, a = some r ∧ b = some r ∧ (r.2.2 = 0 → r = (0, 0, 0) ∧ Good p) ∧ 0 ≤ r.2.2 ∧ r.2.2 ≤ 8) → v.2.2 ≠ 0 → 0 ≤ v.2.2 → v.2.2 ≤ 8 → ∃ r, (if c = true then some v else a) = some r ∧ (if c = true then some v else b) = some r ∧ (r.2.2 = 0 → r = (0, 0, 0) ∧ Good p) ∧ 0 ≤ r.2.2 ∧ r.2.2 ≤ 8 := by
    intro c v a b h hv h0 h8
    by_cases hc : c = true
    · rw [if_pos hc, if_pos hc]; exact ⟨v, rfl, rfl, fun h => absurd h hv, h0, h8⟩
    · rw [if_neg hc, if_neg hc]; exact h hc
  refine out _ _ _ _ (fun c1 => ?_) (by decide) (by decide) (by decide)
  refine out _ _ _ _ (fun c2 => ?_) (by decide) (by decide) (by decide)
  refine out _ _ _ _ (fun c3 => ?_) (by decide) (by decide) (by decide)
  refine out _ _ _ _ (fun c4 => ?_) (by decide) (by decide) (by decide)
  refine out _ _ _ _ (fun c5 => ?_) (by decide) (by decide) (by decide)
  refine out _ _ _ _ (fun c6 => ?_) (by decide) (by decide) (by decide)
  refine out _ _ _ _ (fun c7 => ?_) (by decide) (by decide) (by decide)
  refine out _ _ _ _ (fun c8 => ?_) (by decide) (by decide) (by decide)
  simp only [decide_eq_true_eq, beq_iff_eq] at c1 c2 c3 c4 c5 c6 c7 c8
  have h1 := check_l6 p (by omega) p.funcs.length 0 (by omega)
  have h2 := check_l7 p (by omega) p.funcs.length 0 (by omega)
  rw [show ((0 : Nat) : Int) = 0 from rfl] at h1 h2
  rw [bind_some h1, bind_some h2]
  cases hb : findO (bad1 p) 0 p.funcs.length with
  | some x =>
    obtain ⟨f, a, b⟩ := x
    have hx := (findO_some hb).2.2
    have hb0 : b ≠ 0 ∧ 0 ≤ b ∧ b ≤ 8 := by
      unfold bad1 at hx
      split at hx
      · cases hx; decide
      · split at hx
        · cases hx; decide
        · cases hq : find (fun i => !mayb p (List.getD p.funcs f []) i) 0 (List.getD p.funcs f []).length with
          | none => rw [hq] at hx; cases hx
          | some k => rw [hq] at hx; cases hx; decide
    exact ⟨(f, a, b), rfl, rfl, fun h => absurd h hb0.1, hb0.2⟩
  | none =>
    have hno := findO_none hb
    have hgood1 : ∀ f, f < p.funcs.length → 0 < (List.getD p.funcs f []).length ∧ (List.getD p.funcs f []).length ≤ 64 ∧ ∀ i, i < (List.getD p.funcs f []).length → mayb p (List.getD p.funcs f []) i = true := by
      intro f hf
      have := hno f (Nat.zero_le _) (by omega)
      unfold bad1 at this
      split at this
      · cases this
      · split at this
        · cases this
        · rename_i g1 g2
          refine ⟨by omega, by omega, fun i hi => ?_⟩
          cases hq : find (fun i => !mayb p (List.getD p.funcs f []) i) 0 (List.getD p.funcs f []).length with
          | some k => rw [hq] at this; cases this
          | none =>
            have := find_none hq i (Nat.zero_le _) (by omega)
            simpa using this
    have hnode : ∀ f i, f < p.funcs.length → i < (List.getD p.funcs f []).length → NodeOk p (List.getD (List.getD p.funcs f []) i d_api_Node) ((List.getD p.funcs f []).length : Int) := fun f i hf hi => mayb_ok ((hgood1 f hf).2.2 i hi)
    have hc : CallsOk p.funcs := fun f i g1 g2 g3 => (hnode f i g1 g2).call g3
    have hlen : ∀ f, (List.getD p.funcs f []).length ≤ 65536 := fun f => by
      rcases Nat.lt_or_ge f p.funcs.length with g | g
      · have := (hgood1 f g).2.1; omega
      · rw [getD_out g]; simp
    obtain ⟨t, t1, t2, t3, t4⟩ := calls_eq p hc hlen (by omega)
    have h3 := round_l2 p hc hlen (by omega) p.funcs.length 0 (by omega)
    have h4 := check_l20 p hc hlen (by omega) t t2 t3 t4 p.funcs.length 0 (by omega)
    rw [show ((0 : Nat) : Int) = 0 from rfl] at h3 h4
    unfold prog_round
    rw [h3, t1]
    simp only [bind, Option.bind_some]
    rw [h4]
    simp only [Option.bind_some]
    cases hq : findO (bad2 p.funcs) 0 p.funcs.length with
    | some x => exact ⟨((x.1 : Int), (x.2 : Int), 8), rfl, rfl, (fun h => by cases h), show (0 : Int) ≤ 8 by decide, show (8 : Int) ≤ 8 by decide⟩
    | none =>
      have hno2 := findO_none hq
      refine ⟨(0, 0, 0), rfl, rfl, fun _ => ⟨rfl, by omega, by omega, by omega, by omega, fun f hf => ⟨(hgood1 f hf).1, (hgood1 f hf).2.1⟩, hnode, fun f i hf hi hbad => ?_⟩, by decide, by decide⟩
      have := find_none (hno2 f (Nat.zero_le _) (by omega)) i (Nat.zero_le _) (by omega)
      rw [badb_iff.2 hbad] at this
      cases this
end Go.Bm.GoYtigopdlofamhlaaDoor
