/- Which functions the nodes of a kind name: the document's. -/
import Derived.Test.YtldkmmnffjdliaaGLawRises
namespace Go.Bm.GoYtldkmmnffjdliaa
set_option autoImplicit false
set_option linter.unusedVariables false
set_option linter.unusedSimpArgs false
set_option maxRecDepth 100000
theorem Rises.mono {m n : Nat} (h : m ≤ n) : ∀ {l : List Int}, Rises n l → Rises m l
  | [], _ => trivial
  | x :: l, hr => ⟨by have := hr.1; omega, hr.2⟩
theorem or_step {b : Bool} {P : Prop} (hb : ¬ b = true) {c : Bool} (h : c = true ↔ P) : (c = true ↔ b = true ∨ P) := by rw [h]; simp [hb]
theorem Rises.nat {n : Nat} : ∀ {l : List Int}, Rises n l → ∀ x ∈ l, (n : Int) ≤ x ∧ x < 32
  | [], _, x, hx => by cases hx
  | y :: l, hr, x, hx => by
    obtain ⟨h1, h2, h3⟩ := hr
    rcases List.mem_cons.1 hx with rfl | hx
    · exact ⟨h1, h2⟩
    · have := Rises.nat h3 x hx; omega
theorem Rises.length_le {n : Nat} : ∀ {l : List Int}, Rises n l → n ≤ 32 → l.length + n ≤ 32
  | [], _, h => by simpa using h
  | y :: l, hr, h => by
    obtain ⟨h1, h2, h3⟩ := hr
    have := Rises.length_le h3 (by omega)
    rw [List.length_cons]
    omega
/-! ### named -/
theorem refnamed_l7 (l : List api_Node) (hl : l.length ≤ 65536) (x0 : List Int) (k id : Int) : ∀ (m i : Nat) (b : Bool), i + m = l.length → ∃ b', alibiref06_Named_l7 x0 l k id b (i : Int) = some b' ∧ (b' = true ↔ b = true ∨ ∃ j, i ≤ j ∧ j < l.length ∧ (List.getD l j d_api_Node).kind = k ∧ (List.getD l j d_api_Node).arg = id)
  | 0, i, b, h => by
    rw [alibiref06_Named_l7, if_neg (by simp only [decide_eq_true_eq]; omega)]
    exact ⟨b, rfl, ⟨.inl, fun h => h.elim (fun x => x) fun ⟨j, h1, h2, _⟩ => by omega⟩⟩
  | m + 1, i, b, h => by
    rw [alibiref06_Named_l7, if_pos (decide_eq_true (by omega)), inc i (by omega)]
    have fin : ∀ b1, (b1 = true ↔ b = true ∨ ((List.getD l i d_api_Node).kind = k ∧ (List.getD l i d_api_Node).arg = id)) → ∃ b', alibiref06_Named_l7 x0 l k id b1 ((i + 1 : Nat) : Int) = some b' ∧ (b' = true ↔ b = true ∨ ∃ j, i ≤ j ∧ j < l.length ∧ (List.getD l j d_api_Node).kind = k ∧ (List.getD l j d_api_Node).arg = id) := by
      intro b1 hb1
      obtain ⟨b', q1, q2⟩ := refnamed_l7 l hl x0 k id m (i + 1) b1 (by omega)
      refine ⟨b', q1, ?_⟩
      rw [q2, hb1]
      constructor
      · rintro ((h1 | h1) | ⟨j, h1, h2⟩)
        · exact .inl h1
        · exact .inr ⟨i, Nat.le_refl _, by omega, h1⟩
        · exact .inr ⟨j, by omega, h2⟩
      · rintro (h1 | ⟨j, h1, h2, h3⟩)
        · exact .inl (.inl h1)
        · rcases Nat.eq_or_lt_of_le h1 with rfl | h4
          · exact .inl (.inr h3)
          · exact .inr ⟨j, h4, h2, h3⟩
    by_cases hb : b = true
    · rw [if_pos hb]
      exact fin true (by simp [hb])
    · rw [if_neg hb, if_pos (decide_eq_true (by omega)), if_pos (decide_eq_true (by omega)), Int.toNat_natCast]
      by_cases hk : (List.getD l i d_api_Node).kind = k
      · rw [if_pos (eqT hk)]
        exact fin _ (or_step hb (by rw [beq_iff_eq]; exact ⟨fun h => ⟨hk, h⟩, fun h => h.2⟩))
      · rw [if_neg (eqF hk)]
        exact fin _ (or_step hb ⟨(fun h => by cases h), fun h => absurd h.1 hk⟩)
theorem refnamed_l3 (l : List api_Node) (hl : l.length ≤ 65536) (k : Int) : ∀ (m i : Nat) (x0 : List Int), i + m = 32 → x0.length ≤ i → ∃ t, alibiref06_Named_l3 x0 l k (i : Int) = some (x0 ++ t) ∧ Rises i t ∧ ∀ b : Nat, (b : Int) ∈ t ↔ i ≤ b ∧ b < 32 ∧ ∃ j, j < l.length ∧ (List.getD l j d_api_Node).kind = k ∧ (List.getD l j d_api_Node).arg = (b : Int)
  | 0, i, x0, h, hx => by
    rw [alibiref06_Named_l3, if_neg (by simp only [decide_eq_true_eq]; omega)]
    exact ⟨[], by simp, trivial, fun b => by simp; omega⟩
  | m + 1, i, x0, h, hx => by
    obtain ⟨b, q1, q2⟩ := refnamed_l7 l hl x0 k (i : Int) l.length 0 false (by omega)
    rw [show ((0 : Nat) : Int) = 0 from rfl] at q1
    rw [alibiref06_Named_l3, if_pos (decide_eq_true (by omega)), bind_some q1, inc i (by omega)]
    have hb : b = true ↔ ∃ j, j < l.length ∧ (List.getD l j d_api_Node).kind = k ∧ (List.getD l j d_api_Node).arg = (i : Int) := by rw [q2]; simp
    by_cases hbt : b = true
    · rw [if_pos hbt, if_pos (Nat.ble_eq_true_of_le (by simp only [List.length_singleton, reach]; omega))]
      obtain ⟨t, g1, g2, g3⟩ := refnamed_l3 l hl k m (i + 1) (x0 ++ [(i : Int)]) (by omega) (by simp; omega)
      refine ⟨(i : Int) :: t, by rw [g1]; simp, ⟨Int.le_refl _, by omega, by rw [Int.toNat_natCast]; exact g2⟩, fun c => ?_⟩
      rw [List.mem_cons, g3]
      constructor
      · rintro (h1 | ⟨h1, h2, h3⟩)
        · have : c = i := by omega
          subst this
          exact ⟨Nat.le_refl _, by omega, hb.1 hbt⟩
        · exact ⟨by omega, h2, h3⟩
      · rintro ⟨h1, h2, h3⟩
        rcases Nat.eq_or_lt_of_le h1 with rfl | h4
        · exact .inl rfl
        · exact .inr ⟨h4, h2, h3⟩
    · rw [if_neg hbt]
      obtain ⟨t, g1, g2, g3⟩ := refnamed_l3 l hl k m (i + 1) x0 (by omega) (by omega)
      refine ⟨t, g1, g2.mono (by omega), fun c => ?_⟩
      rw [g3]
      constructor
      · rintro ⟨h1, h2, h3⟩; exact ⟨by omega, h2, h3⟩
      · rintro ⟨h1, h2, h3⟩
        rcases Nat.eq_or_lt_of_le h1 with rfl | h4
        · exact absurd (hb.2 h3) hbt
        · exact ⟨h4, h2, h3⟩
theorem refnamed_eq (l : List api_Node) (hl : l.length ≤ 65536) (k : Int) : ∃ t, alibiref06_Named l k = some t ∧ Rises 0 t ∧ ∀ b : Nat, (b : Int) ∈ t ↔ b < 32 ∧ ∃ j, j < l.length ∧ (List.getD l j d_api_Node).kind = k ∧ (List.getD l j d_api_Node).arg = (b : Int) := by
  obtain ⟨t, q1, q2, q3⟩ := refnamed_l3 l hl k 32 0 [] rfl (by simp)
  rw [show ((0 : Nat) : Int) = 0 from rfl, List.nil_append] at q1
  unfold alibiref06_Named
  rw [bind_some q1]
  exact ⟨t, rfl, q2, fun b => by rw [q3]; simp⟩
end Go.Bm.GoYtldkmmnffjdliaa
