/- What functions come to, and what they may do: the document's tables. -/
import Derived.Test.YtldkmmnffjdliaaYLawOrder
namespace Go.Bm.GoYtldkmmnffjdliaa
set_option autoImplicit false
set_option linter.unusedVariables false
set_option linter.unusedSimpArgs false
set_option maxRecDepth 100000
theorem Rises.mono {m n : Nat} (h : m ≤ n) : ∀ {l : List Int}, Rises n l → Rises m l
  | [], _ => trivial
  | x :: l, hr => ⟨by have := hr.1; omega, hr.2⟩
theorem or_step {b : Bool} {P : Prop} (hb : ¬ b = true) {c : Bool} (h : c = true ↔ P) : (c = true ↔ b = true ∨ P) := by rw [h]; simp [hb]
theorem Rises.nat {n : Nat} : ∀ {l : List Int}, Rises n l → ∀ x ∈ l, (n : Int) ≤ x ∧ x < 32
  | [], _, x, hx => by cases hx
  | y :: l, hr, x, hx => by
    obtain ⟨h1, h2, h3⟩ := hr
    rcases List.mem_cons.1 hx with rfl | hx
    · exact ⟨h1, h2⟩
    · have := Rises.nat h3 x hx; omega
theorem Rises.length_le {n : Nat} : ∀ {l : List Int}, Rises n l → n ≤ 32 → l.length + n ≤ 32
  | [], _, h => by simpa using h
  | y :: l, hr, h => by
    obtain ⟨h1, h2, h3⟩ := hr
    have := Rises.length_le h3 (by omega)
    rw [List.length_cons]
    omega
/-! ### named -/
theorem refnamed_l7 (l : List api_Node) (hl : l.length ≤ 65536) (x0 : List Int) (k id : Int) : ∀ (m i : Nat) (b : Bool), i + m = l.length → ∃ b', alibiref06_Named_l7 x0 l k id b (i : Int) = some b' ∧ (b' = true ↔ b = true ∨ ∃ j, i ≤ j ∧ j < l.length ∧ (List.getD l j d_api_Node).kind = k ∧ (List.getD l j d_api_Node).arg = id)
  | 0, i, b, h => by
    rw [alibiref06_Named_l7, if_neg (by simp only [decide_eq_true_eq]; omega)]
    exact ⟨b, rfl, ⟨.inl, fun h => h.elim (fun x => x) fun ⟨j, h1, h2, _⟩ => by omega⟩⟩
  | m + 1, i, b, h => by
    rw [alibiref06_Named_l7, if_pos (decide_eq_true (by omega)), inc i (by omega)]
    have fin : ∀ b1, (b1 = true ↔ b = true ∨ ((List.getD l i d_api_Node).kind = k ∧ (List.getD l i d_api_Node).arg = id)) → ∃ b', alibiref06_Named_l7 x0 l k id b1 ((i + 1 : Nat) : Int) = some b' ∧ (b' = true ↔ b = true ∨ ∃ j, i ≤ j ∧ j < l.length ∧ (List.getD l j d_api_Node).kind = k ∧ (List.getD l j d_api_Node).arg = id) := by
      intro b1 hb1
      obtain ⟨b', q1, q2⟩ := refnamed_l7 l hl x0 k id m (i + 1) b1 (by omega)
      refine ⟨b', q1, ?_⟩
      rw [q2, hb1]
      constructor
      · rintro ((h1 | h1) | ⟨j, h1, h2⟩)
        · exact .inl h1
        · exact .inr ⟨i, Nat.le_refl _, by omega, h1⟩
        · exact .inr ⟨j, by omega, h2⟩
      · rintro (h1 | ⟨j, h1, h2, h3⟩)
        · exact .inl (.inl h1)
        · rcases Nat.eq_or_lt_of_le h1 with rfl | h4
          · exact .inl (.inr h3)
          · exact .inr ⟨j, h4, h2, h3⟩
    by_cases hb : b = true
    · rw [if_pos hb]
      exact fin true (by simp [hb])
    · rw [if_neg hb, if_pos (decide_eq_true (by omega)), if_pos (decide_eq_true (by omega)), Int.toNat_natCast]
      by_cases hk : (List.getD l i d_api_Node).kind = k
      · rw [if_pos (eqT hk)]
        exact fin _ (or_step hb (by rw [beq_iff_eq]; exact ⟨fun h => ⟨hk, h⟩, fun h => h.2⟩))
      · rw [if_neg (eqF hk)]
        exact fin _ (or_step hb ⟨(fun h => by cases h), fun h => absurd h.1 hk⟩)
theorem refnamed_l3 (l : List api_Node) (hl : l.length ≤ 65536) (k : Int) : ∀ (m i : Nat) (x0 : List Int), i + m = 32 → x0.length ≤ i → ∃ t, alibiref06_Named_l3 x0 l k (i : Int) = some (x0 ++ t) ∧ Rises i t ∧ ∀ b : Nat, (b : Int) ∈ t ↔ i ≤ b ∧ b < 32 ∧ ∃ j, j < l.length ∧ (List.getD l j d_api_Node).kind = k ∧ (List.getD l j d_api_Node).arg = (b : Int)
  | 0, i, x0, h, hx => by
    rw [alibiref06_Named_l3, if_neg (by simp only [decide_eq_true_eq]; omega)]
    exact ⟨[], by simp, trivial, fun b => by simp; omega⟩
  | m + 1, i, x0, h, hx => by
    obtain ⟨b, q1, q2⟩ := refnamed_l7 l hl x0 k (i : Int) l.length 0 false (by omega)
    rw [show ((0 : Nat) : Int) = 0 from rfl] at q1
    rw [alibiref06_Named_l3, if_pos (decide_eq_true (by omega)), bind_some q1, inc i (by omega)]
    have hb : b = true ↔ ∃ j, j < l.length ∧ (List.getD l j d_api_Node).kind = k ∧ (List.getD l j d_api_Node).arg = (i : Int) := by rw [q2]; simp
    by_cases hbt : b = true
    · rw [if_pos hbt, if_pos (Nat.ble_eq_true_of_le (by simp only [List.length_singleton, reach]; omega))]
      obtain ⟨t, g1, g2, g3⟩ := refnamed_l3 l hl k m (i + 1) (x0 ++ [(i : Int)]) (by omega) (by simp; omega)
      refine ⟨(i : Int) :: t, by rw [g1]; simp, ⟨Int.le_refl _, by omega, by rw [Int.toNat_natCast]; exact g2⟩, fun c => ?_⟩
      rw [List.mem_cons, g3]
      constructor
      · rintro (h1 | ⟨h1, h2, h3⟩)
        · have : c = i := by omega
          subst this
          exact ⟨Nat.le_refl _, by omega, hb.1 hbt⟩
        · exact ⟨by omega, h2, h3⟩
      · rintro ⟨h1, h2, h3⟩
        rcases Nat.eq_or_lt_of_le h1 with rfl | h4
        · exact .inl rfl
        · exact .inr ⟨h4, h2, h3⟩
    · rw [if_neg hbt]
      obtain ⟨t, g1, g2, g3⟩ := refnamed_l3 l hl k m (i + 1) x0 (by omega) (by omega)
      refine ⟨t, g1, g2.mono (by omega), fun c => ?_⟩
      rw [g3]
      constructor
      · rintro ⟨h1, h2, h3⟩; exact ⟨by omega, h2, h3⟩
      · rintro ⟨h1, h2, h3⟩
        rcases Nat.eq_or_lt_of_le h1 with rfl | h4
        · exact absurd (hb.2 h3) hbt
        · exact ⟨h4, h2, h3⟩
theorem refnamed_eq (l : List api_Node) (hl : l.length ≤ 65536) (k : Int) : ∃ t, alibiref06_Named l k = some t ∧ Rises 0 t ∧ ∀ b : Nat, (b : Int) ∈ t ↔ b < 32 ∧ ∃ j, j < l.length ∧ (List.getD l j d_api_Node).kind = k ∧ (List.getD l j d_api_Node).arg = (b : Int) := by
  obtain ⟨t, q1, q2, q3⟩ := refnamed_l3 l hl k 32 0 [] rfl (by simp)
  rw [show ((0 : Nat) : Int) = 0 from rfl, List.nil_append] at q1
  unfold alibiref06_Named
  rw [bind_some q1]
  exact ⟨t, rfl, q2, fun b => by rw [q3]; simp⟩
/-! ### reached -/
theorem reach_l4 (p : api_Program) (fr : List Int) (hfl : fr.length ≤ 65536) (hfr : ∀ x ∈ fr, 0 ≤ x) : ∀ (m i : Nat) (s : List Bool), i + m = fr.length → s.length = p.funcs.length → ∃ s', alibiref06_Reach_l4 s p.globals p.locks p.slots p.funcs fr (p.funcs.length : Int) (i : Int) = some s' ∧ s'.length = p.funcs.length ∧ ∀ y, Sn s' y ↔ Sn s y ∨ (y < p.funcs.length ∧ (y : Int) ∈ fr.drop i)
  | 0, i, s, h, hs => by
    rw [alibiref06_Reach_l4, if_neg (by simp only [decide_eq_true_eq]; omega), List.drop_eq_nil_of_le (by omega)]
    exact ⟨s, rfl, hs, fun y => by simp⟩
  | m + 1, i, s, h, hs => by
    have hlt : i < fr.length := by omega
    have hd : fr.drop i = fr[i] :: fr.drop (i + 1) := List.drop_eq_getElem_cons hlt
    have hg : List.getD fr i 0 = fr[i] := by simp [List.getD, hlt]
    have h0 := hfr _ (List.getElem_mem hlt)
    rw [alibiref06_Reach_l4, if_pos (decide_eq_true (by omega)), if_pos (decide_eq_true (by omega)), if_pos (decide_eq_true (by omega)), Int.toNat_natCast, hg, hd, inc i (by omega)]
    obtain ⟨x, hx⟩ : ∃ x : Nat, fr[i] = (x : Int) := ⟨fr[i].toNat, by omega⟩
    rw [hx]
    by_cases hxn : x < p.funcs.length
    · rw [if_pos (decide_eq_true (by omega)), if_pos (decide_eq_true (by omega)), if_pos (decide_eq_true (by omega)), Int.toNat_natCast]
      obtain ⟨s', q1, q2, q3⟩ := reach_l4 p fr hfl hfr m (i + 1) (s.set x true) (by omega) (by simpa using hs)
      refine ⟨s', q1, q2, fun y => ?_⟩
      rw [q3, Sn_set (by omega), List.mem_cons]
      constructor
      · rintro ((rfl | h1) | ⟨h1, h2⟩)
        · exact .inr ⟨hxn, .inl rfl⟩
        · exact .inl h1
        · exact .inr ⟨h1, .inr h2⟩
      · rintro (h1 | ⟨h1, h2 | h2⟩)
        · exact .inl (.inr h1)
        · exact .inl (.inl (by omega))
        · exact .inr ⟨h1, h2⟩
    · rw [if_neg (by simp only [decide_eq_true_eq]; omega)]
      obtain ⟨s', q1, q2, q3⟩ := reach_l4 p fr hfl hfr m (i + 1) s (by omega) hs
      refine ⟨s', q1, q2, fun y => ?_⟩
      rw [q3, List.mem_cons]
      constructor
      · rintro (h1 | ⟨h1, h2⟩)
        · exact .inl h1
        · exact .inr ⟨h1, .inr h2⟩
      · rintro (h1 | ⟨h1, h2 | h2⟩)
        · exact .inl h1
        · omega
        · exact .inr ⟨h1, h2⟩
theorem reach_l16 (calls : List Int) (hcl : calls.length ≤ 65536) (n f : Nat) (hf : f < n) (hcr : ∀ x ∈ calls, 0 ≤ x ∧ x < (n : Int)) (x2 x3 x4 : Int) (x5 : FS) (x7 : Int) : ∀ (m i : Nat) (s : List Bool), i + m = calls.length → s.length = n → ∃ s', alibiref06_Reach_l16 s calls x2 x3 x4 x5 (n : Int) x7 (f : Int) (i : Int) = some s' ∧ s'.length = n ∧ ∀ y, Sn s' y ↔ Sn s y ∨ (Sn s f ∧ (y : Int) ∈ calls.drop i)
  | 0, i, s, h, hs => by
    rw [alibiref06_Reach_l16, if_neg (by simp only [decide_eq_true_eq]; omega), List.drop_eq_nil_of_le (by omega)]
    exact ⟨s, rfl, hs, fun y => by simp⟩
  | m + 1, i, s, h, hs => by
    have hlt : i < calls.length := by omega
    have hd : calls.drop i = calls[i] :: calls.drop (i + 1) := List.drop_eq_getElem_cons hlt
    have hg : List.getD calls i 0 = calls[i] := by simp [List.getD, hlt]
    have h0 := hcr _ (List.getElem_mem hlt)
    rw [alibiref06_Reach_l16, if_pos (decide_eq_true (by omega)), if_pos (decide_eq_true (by omega)), if_pos (decide_eq_true (by omega)), inc i (by omega)]
    rw [Int.toNat_natCast f, Int.toNat_natCast i]
    by_cases hsf : Sn s f
    · rw [if_pos (show List.getD s f false = true from hsf), if_pos (decide_eq_true (by omega)), if_pos (decide_eq_true (by omega)), hg, hd]
      obtain ⟨x, hx⟩ : ∃ x : Nat, calls[i] = (x : Int) := ⟨calls[i].toNat, by omega⟩
      rw [hx] at h0 ⊢
      rw [if_pos (decide_eq_true (by omega)), if_pos (decide_eq_true (by omega)), if_pos (decide_eq_true (by omega)), Int.toNat_natCast]
      obtain ⟨s', q1, q2, q3⟩ := reach_l16 calls hcl n f hf hcr x2 x3 x4 x5 x7 m (i + 1) (s.set x true) (by omega) (by simpa using hs)
      refine ⟨s', q1, q2, fun y => ?_⟩
      rw [q3, Sn_set (by omega), Sn_set (by omega), List.mem_cons]
      constructor
      · rintro ((rfl | h1) | ⟨_, h2⟩)
        · exact .inr ⟨hsf, .inl rfl⟩
        · exact .inl h1
        · exact .inr ⟨hsf, .inr h2⟩
      · rintro (h1 | ⟨h1, h2 | h2⟩)
        · exact .inl (.inr h1)
        · exact .inl (.inl (by omega))
        · exact .inr ⟨.inr h1, h2⟩
    · rw [if_neg (show ¬ List.getD s f false = true from hsf)]
      obtain ⟨s', q1, q2, q3⟩ := reach_l16 calls hcl n f hf hcr x2 x3 x4 x5 x7 m (i + 1) s (by omega) hs
      refine ⟨s', q1, q2, fun y => ?_⟩
      rw [q3]
      simp [hsf]
theorem edge_named {fs : FS} {f : Nat} {t : List Int} (he : ∀ b, Edge fs f b → b < 32) (ht : ∀ b : Nat, (b : Int) ∈ t ↔ b < 32 ∧ ∃ j, j < (List.getD fs f []).length ∧ (List.getD (List.getD fs f []) j d_api_Node).kind = 7 ∧ (List.getD (List.getD fs f []) j d_api_Node).arg = (b : Int)) (b : Nat) : (b : Int) ∈ t ↔ Edge fs f b := by
  rw [ht]
  exact ⟨fun h => h.2, fun h => ⟨he b h, h⟩⟩
theorem reach_l12 (p : api_Program) (hg : Good p) (x6 : Int) : ∀ (m f : Nat) (s : List Bool), f + m = p.funcs.length → s.length = p.funcs.length → ∃ s', alibiref06_Reach_l12 s p.globals p.locks p.slots p.funcs (p.funcs.length : Int) x6 (f : Int) = some s' ∧ s'.length = p.funcs.length ∧ (∀ y, Sn s y → Sn s' y) ∧ (∀ Q : Nat → Prop, (∀ x y, Q x → Edge p.funcs x y → Q y) → (∀ y, Sn s y → Q y) → ∀ y, Sn s' y → Q y) ∧ ∀ x y, f ≤ x → Sn s x → Edge p.funcs x y → Sn s' y
  | 0, f, s, h, hs => by
    rw [alibiref06_Reach_l12, if_neg (by simp only [decide_eq_true_eq]; omega)]
    exact ⟨s, rfl, hs, fun y h => h, fun Q _ h => h, fun x y hx hsx _ => by have := hsx.lt; omega⟩
  | m + 1, f, s, h, hs => by
    have hle := hg.le f
    have hn := hg.funcs.2
    obtain ⟨t, q1, q2, q3⟩ := refnamed_eq (List.getD p.funcs f []) (by omega) 7
    have he : ∀ b, Edge p.funcs f b → b < 32 := fun b e => by have := (e.lt hg.calls).2; omega
    have hmem := edge_named he q3
    have htn := q2.nat
    have htl := q2.length_le (by omega)
    obtain ⟨s1, g1, g2, g3⟩ := reach_l16 t (by omega) p.funcs.length f (by omega) (fun x hx => by
      have h0 := htn x hx
      obtain ⟨b, rfl⟩ : ∃ b : Nat, x = (b : Int) := ⟨x.toNat, by omega⟩
      have := (((hmem b).1 hx).lt hg.calls).2
      omega) p.globals p.locks p.slots p.funcs x6 t.length 0 s (by omega) hs
    rw [show ((0 : Nat) : Int) = 0 from rfl] at g1
    rw [alibiref06_Reach_l12, if_pos (decide_eq_true (by omega)), if_pos (decide_eq_true (by omega)), if_pos (decide_eq_true (by omega)), Int.toNat_natCast, bind_some q1, bind_some g1, inc f (by omega)]
    obtain ⟨s', k1, k2, k3, k4, k5⟩ := reach_l12 p hg x6 m (f + 1) s1 (by omega) g2
    refine ⟨s', k1, k2, fun y hy => k3 y ((g3 y).2 (.inl hy)), fun Q hQ hsQ => k4 Q hQ fun y hy => ?_, fun x y hx hsx e => ?_⟩
    · rcases (g3 y).1 hy with h1 | ⟨h1, h2⟩
      · exact hsQ y h1
      · rw [List.drop_zero] at h2
        exact hQ f y (hsQ f h1) ((hmem y).1 h2)
    · rcases Nat.eq_or_lt_of_le hx with rfl | hx
      · exact k3 y ((g3 y).2 (.inr ⟨hsx, by rw [List.drop_zero]; exact (hmem y).2 e⟩))
      · exact k5 x y hx ((g3 x).2 (.inl hsx)) e
theorem count_lt {s s' : List Bool} (hl : s.length = s'.length) (h : ∀ y, Sn s y → Sn s' y) {y : Nat} (h1 : ¬ Sn s y) (h2 : Sn s' y) : s'.count false + 1 ≤ s.count false := by
  have hy : y < s.length := by have := h2.lt; omega
  have h3 := count_set_true hy h1
  have h4 := count_mono (s.set y true) s' (by simpa using hl) fun x hx => by
    rcases (Sn_set hy).1 hx with rfl | hx
    · exact h2
    · exact h x hx
  omega
def Closed (fs : FS) (s : List Bool) : Prop := ∀ x, Sn s x → ∀ y, Edge fs x y → Sn s y
theorem reach_l9 (p : api_Program) (hg : Good p) : ∀ (m r : Nat) (s : List Bool), r + m = p.funcs.length → s.length = p.funcs.length → ∃ s', alibiref06_Reach_l9 s p.globals p.locks p.slots p.funcs (p.funcs.length : Int) (r : Int) = some s' ∧ s'.length = p.funcs.length ∧ (∀ y, Sn s y → Sn s' y) ∧ (∀ Q : Nat → Prop, (∀ x y, Q x → Edge p.funcs x y → Q y) → (∀ y, Sn s y → Q y) → ∀ y, Sn s' y → Q y) ∧ (Closed p.funcs s' ∨ s'.count false + m ≤ s.count false)
  | 0, r, s, h, hs => by
    rw [alibiref06_Reach_l9, if_neg (by simp only [decide_eq_true_eq]; omega)]
    exact ⟨s, rfl, hs, fun y h => h, fun Q _ h => h, .inr (by omega)⟩
  | m + 1, r, s, h, hs => by
    have hn := hg.funcs.2
    obtain ⟨s1, g1, g2, g3, g4, g5⟩ := reach_l12 p hg (r : Int) p.funcs.length 0 s (by omega) hs
    rw [show ((0 : Nat) : Int) = 0 from rfl] at g1
    rw [alibiref06_Reach_l9, if_pos (decide_eq_true (by omega)), bind_some g1, inc r (by omega)]
    obtain ⟨s', k1, k2, k3, k4, k5⟩ := reach_l9 p hg m (r + 1) s1 (by omega) g2
    refine ⟨s', k1, k2, fun y hy => k3 y (g3 y hy), fun Q hQ hsQ => k4 Q hQ (g4 Q hQ hsQ), ?_⟩
    by_cases hcl : Closed p.funcs s
    · left
      have e1 : ∀ y, Sn s1 y → Sn s y := g4 (Sn s) (fun x y hx e => hcl x hx y e) fun y h => h
      have e2 : ∀ y, Sn s' y → Sn s y := fun y hy => e1 y (by
        have := k4 (Sn s1) (fun x y hx e => g3 y (hcl x (e1 x hx) y e)) (fun y h => h) y hy
        exact this)
      exact fun x hx y e => k3 y (g3 y (hcl x (e2 x hx) y e))
    · rcases k5 with k5 | k5
      · exact .inl k5
      · right
        have : ∃ x y, Sn s x ∧ Edge p.funcs x y ∧ ¬ Sn s y := by
          apply Classical.byContradiction
          intro hno
          exact hcl fun x hx y e => Classical.byContradiction fun h => hno ⟨x, y, hx, e, h⟩
        obtain ⟨x, y, h1, h2, h3⟩ := this
        have := count_lt (by omega) g3 h3 (g5 x y (Nat.zero_le _) h1 h2)
        omega
theorem reach_l22 (s : List Bool) (n : Nat) (hn : n ≤ 32) (hs : s.length = n) : ∀ (m f : Nat) (x0 : List Int), f + m = n → x0.length ≤ f → ∃ t, alibiref06_Reach_l22 s x0 (n : Int) (f : Int) = some (x0 ++ t) ∧ Rises f t ∧ ∀ b : Nat, (b : Int) ∈ t ↔ f ≤ b ∧ Sn s b
  | 0, f, x0, h, hx => by
    rw [alibiref06_Reach_l22, if_neg (by simp only [decide_eq_true_eq]; omega)]
    exact ⟨[], by simp, trivial, fun b => by simp; intro h1 h2; have := h2.lt; omega⟩
  | m + 1, f, x0, h, hx => by
    rw [alibiref06_Reach_l22, if_pos (decide_eq_true (by omega)), if_pos (decide_eq_true (by omega)), if_pos (decide_eq_true (by omega)), if_pos (decide_eq_true (by omega)), Int.toNat_natCast, inc f (by omega)]
    by_cases hf : Sn s f
    · rw [if_pos (show List.getD s f false = true from hf), if_pos (Nat.ble_eq_true_of_le (by simp only [List.length_singleton, reach]; omega))]
      obtain ⟨t, g1, g2, g3⟩ := reach_l22 s n hn hs m (f + 1) (x0 ++ [(f : Int)]) (by omega) (by simp; omega)
      refine ⟨(f : Int) :: t, by rw [g1]; simp, ⟨Int.le_refl _, by omega, by rw [Int.toNat_natCast]; exact g2⟩, fun b => ?_⟩
      rw [List.mem_cons, g3]
      constructor
      · rintro (h1 | ⟨h1, h2⟩)
        · have : b = f := by omega
          subst this
          exact ⟨Nat.le_refl _, hf⟩
        · exact ⟨by omega, h2⟩
      · rintro ⟨h1, h2⟩
        rcases Nat.eq_or_lt_of_le h1 with rfl | h3
        · exact .inl rfl
        · exact .inr ⟨h3, h2⟩
    · rw [if_neg (show ¬ List.getD s f false = true from hf)]
      obtain ⟨t, g1, g2, g3⟩ := reach_l22 s n hn hs m (f + 1) x0 (by omega) (by omega)
      refine ⟨t, g1, g2.mono (by omega), fun b => ?_⟩
      rw [g3]
      constructor
      · rintro ⟨h1, h2⟩; exact ⟨by omega, h2⟩
      · rintro ⟨h1, h2⟩
        rcases Nat.eq_or_lt_of_le h1 with rfl | h3
        · exact absurd h2 hf
        · exact ⟨h3, h2⟩
theorem refreach_eq (p : api_Program) (hg : Good p) (f : Nat) (hf : f < p.funcs.length) : ∃ t, alibiref06_Reach p [(f : Int)] = some t ∧ Rises 0 t ∧ ∀ b : Nat, (b : Int) ∈ t ↔ Path p.funcs f b := by
  have hn := hg.funcs.2
  unfold alibiref06_Reach
  rw [if_pos (decide_eq_true (by omega)), if_pos (decide_eq_true (by simp only [reach]; omega)), Int.toNat_natCast]
  obtain ⟨s0, q1, q2, q3⟩ := reach_l4 p [(f : Int)] (by simp) (by simp) 1 0 (List.replicate p.funcs.length false) rfl (by simp)
  rw [show ((0 : Nat) : Int) = 0 from rfl] at q1
  have h0 : ∀ y, Sn s0 y ↔ y = f := fun y => by
    rw [q3, List.drop_zero, List.mem_singleton]
    constructor
    · rintro (h1 | ⟨_, h2⟩)
      · exact absurd h1 (sn_replicate _ _)
      · omega
    · rintro rfl; exact .inr ⟨hf, rfl⟩
  obtain ⟨s, g1, g2, g3, g4, g5⟩ := reach_l9 p hg p.funcs.length 0 s0 (by omega) q2
  rw [show ((0 : Nat) : Int) = 0 from rfl] at g1
  obtain ⟨t, k1, k2, k3⟩ := reach_l22 s p.funcs.length (by omega) g2 p.funcs.length 0 [] (by omega) (by simp)
  rw [show ((0 : Nat) : Int) = 0 from rfl, List.nil_append] at k1
  rw [bind_some q1, bind_some g1, bind_some k1]
  have hcl : Closed p.funcs s := by
    rcases g5 with h | h
    · exact h
    · exfalso
      have h1 := count_lt (s := List.replicate p.funcs.length false) (s' := s0) (by simp [q2]) (fun y hy => absurd hy (sn_replicate _ _)) (sn_replicate _ f) ((h0 f).2 rfl)
      have h2 := List.count_le_length (a := false) (l := List.replicate p.funcs.length false)
      rw [List.length_replicate] at h2
      omega
  refine ⟨t, rfl, k2, fun b => ?_⟩
  rw [k3]
  constructor
  · rintro ⟨_, h1⟩
    exact g4 (Path p.funcs f) (fun x y hx e => hx.snoc e) (fun y hy => by rw [(h0 y).1 hy]; exact .refl _) b h1
  · intro h1
    exact ⟨Nat.zero_le _, path_closed (fun x hx y e => hcl x hx y e) h1 (g3 f ((h0 f).2 rfl))⟩
/-! ### gathered -/
/-- A function has a node of some kinds. -/
def Has (fs : FS) (k1 k2 : Int) (g : Nat) (id : Int) : Prop := ∃ j, j < (List.getD fs g []).length ∧ ((List.getD (List.getD fs g []) j d_api_Node).kind = k1 ∨ (List.getD (List.getD fs g []) j d_api_Node).kind = k2) ∧ (List.getD (List.getD fs g []) j d_api_Node).arg = id
theorem gather_l11 (fs : FS) (l : List Int) (hln : l.length ≤ 65536) (i g : Nat) (hi : i < l.length) (hg : List.getD l i 0 = (g : Int)) (hgn : g < fs.length) (hlen : (List.getD fs g []).length ≤ 65536) (x1 : List Int) (x2 x3 x4 k1 k2 id : Int) : ∀ (m j : Nat) (b : Bool), j + m = (List.getD fs g []).length → ∃ b', alibiref14_Gather_l11 l x1 x2 x3 x4 fs k1 k2 id b (i : Int) (j : Int) = some b' ∧ (b' = true ↔ b = true ∨ ∃ q, j ≤ q ∧ q < (List.getD fs g []).length ∧ ((List.getD (List.getD fs g []) q d_api_Node).kind = k1 ∨ (List.getD (List.getD fs g []) q d_api_Node).kind = k2) ∧ (List.getD (List.getD fs g []) q d_api_Node).arg = id)
  | 0, j, b, h => by
    rw [alibiref14_Gather_l11, if_pos (decide_eq_true (by omega)), if_pos (decide_eq_true (by omega)), Int.toNat_natCast, hg, if_pos (decide_eq_true (by omega)), if_pos (decide_eq_true (by omega)), Int.toNat_natCast, if_neg (by simp only [decide_eq_true_eq]; omega)]
    exact ⟨b, rfl, ⟨.inl, fun h => h.elim (fun x => x) fun ⟨q, h1, h2, _⟩ => by omega⟩⟩
  | m + 1, j, b, h => by
    rw [alibiref14_Gather_l11, if_pos (decide_eq_true (by omega)), if_pos (decide_eq_true (by omega)), Int.toNat_natCast, hg, if_pos (decide_eq_true (by omega)), if_pos (decide_eq_true (by omega)), Int.toNat_natCast, if_pos (decide_eq_true (by omega)), if_pos (decide_eq_true (by omega)), if_pos (decide_eq_true (by omega)), Int.toNat_natCast, inc j (by omega)]
    have fin : ∀ b1, (b1 = true ↔ b = true ∨ (((List.getD (List.getD fs g []) j d_api_Node).kind = k1 ∨ (List.getD (List.getD fs g []) j d_api_Node).kind = k2) ∧ (List.getD (List.getD fs g []) j d_api_Node).arg = id)) → ∃ b', alibiref14_Gather_l11 l x1 x2 x3 x4 fs k1 k2 id b1 (i : Int) ((j + 1 : Nat) : Int) = some b' ∧ (b' = true ↔ b = true ∨ ∃ q, j ≤ q ∧ q < (List.getD fs g []).length ∧ ((List.getD (List.getD fs g []) q d_api_Node).kind = k1 ∨ (List.getD (List.getD fs g []) q d_api_Node).kind = k2) ∧ (List.getD (List.getD fs g []) q d_api_Node).arg = id) := by
      intro b1 hb1
      obtain ⟨b', q1, q2⟩ := gather_l11 fs l hln i g hi hg hgn hlen x1 x2 x3 x4 k1 k2 id m (j + 1) b1 (by omega)
      refine ⟨b', q1, ?_⟩
      rw [q2, hb1]
      constructor
      · rintro ((h1 | h1) | ⟨q, h1, h2⟩)
        · exact .inl h1
        · exact .inr ⟨j, Nat.le_refl _, by omega, h1⟩
        · exact .inr ⟨q, by omega, h2⟩
      · rintro (h1 | ⟨q, h1, h2, h3⟩)
        · exact .inl (.inl h1)
        · rcases Nat.eq_or_lt_of_le h1 with rfl | h4
          · exact .inl (.inr h3)
          · exact .inr ⟨q, h4, h2, h3⟩
    by_cases hb : b = true
    · rw [if_pos hb]
      exact fin true (by simp [hb])
    · rw [if_neg hb]
      by_cases e1 : (List.getD (List.getD fs g []) j d_api_Node).kind = k1
      · rw [if_pos (eqT e1)]
        exact fin _ (or_step hb (by rw [beq_iff_eq]; exact ⟨fun h => ⟨.inl e1, h⟩, fun h => h.2⟩))
      · rw [if_neg (eqF e1)]
        by_cases e2 : (List.getD (List.getD fs g []) j d_api_Node).kind = k2
        · rw [if_pos (eqT e2)]
          exact fin _ (or_step hb (by rw [beq_iff_eq]; exact ⟨fun h => ⟨.inr e2, h⟩, fun h => h.2⟩))
        · rw [if_neg (eqF e2)]
          exact fin _ (or_step hb ⟨(fun h => by cases h), fun h => h.1.elim (fun h => absurd h e1) fun h => absurd h e2⟩)
theorem gather_l8 (fs : FS) (hlen : ∀ g, (List.getD fs g []).length ≤ 65536) (l : List Int) (hln : l.length ≤ 65536) (hl : ∀ x ∈ l, 0 ≤ x ∧ x < (fs.length : Int)) (x1 : List Int) (x2 x3 x4 k1 k2 id : Int) : ∀ (m i : Nat) (b : Bool), i + m = l.length → ∃ b', alibiref14_Gather_l8 l x1 x2 x3 x4 fs k1 k2 id b (i : Int) = some b' ∧ (b' = true ↔ b = true ∨ ∃ g : Nat, (g : Int) ∈ l.drop i ∧ Has fs k1 k2 g id)
  | 0, i, b, h => by
    rw [alibiref14_Gather_l8, if_neg (by simp only [decide_eq_true_eq]; omega), List.drop_eq_nil_of_le (by omega)]
    exact ⟨b, rfl, by simp⟩
  | m + 1, i, b, h => by
    have hlt : i < l.length := by omega
    have hd : l.drop i = l[i] :: l.drop (i + 1) := List.drop_eq_getElem_cons hlt
    have hg : List.getD l i 0 = l[i] := by simp [List.getD, hlt]
    have h0 := hl _ (List.getElem_mem hlt)
    obtain ⟨g, hx⟩ : ∃ x : Nat, l[i] = (x : Int) := ⟨l[i].toNat, by omega⟩
    rw [hx] at h0
    obtain ⟨b1, q1, q2⟩ := gather_l11 fs l hln i g hlt (hg.trans hx) (by omega) (hlen g) x1 x2 x3 x4 k1 k2 id (List.getD fs g []).length 0 b (by omega)
    rw [show ((0 : Nat) : Int) = 0 from rfl] at q1
    rw [alibiref14_Gather_l8, if_pos (decide_eq_true (by omega)), bind_some q1, inc i (by omega)]
    obtain ⟨b', k1', k2'⟩ := gather_l8 fs hlen l hln hl x1 x2 x3 x4 k1 k2 id m (i + 1) b1 (by omega)
    refine ⟨b', k1', ?_⟩
    rw [k2', q2, hd, hx]
    constructor
    · rintro ((h1 | ⟨q, _, h2⟩) | ⟨c, h1, h2⟩)
      · exact .inl h1
      · exact .inr ⟨g, by simp, q, h2⟩
      · exact .inr ⟨c, List.mem_cons_of_mem _ h1, h2⟩
    · rintro (h1 | ⟨c, h1, h2⟩)
      · exact .inl (.inl h1)
      · rcases List.mem_cons.1 h1 with h3 | h3
        · have : c = g := by omega
          subst this
          obtain ⟨q, h4⟩ := h2
          exact .inl (.inr ⟨q, Nat.zero_le _, h4⟩)
        · exact .inr ⟨c, h3, h2⟩
theorem gather_l4 (fs : FS) (hlen : ∀ g, (List.getD fs g []).length ≤ 65536) (l : List Int) (hln : l.length ≤ 65536) (hl : ∀ x ∈ l, 0 ≤ x ∧ x < (fs.length : Int)) (x2 x3 x4 k1 k2 : Int) : ∀ (m i : Nat) (x0 : List Int), i + m = 32 → x0.length ≤ i → ∃ t, alibiref14_Gather_l4 l x0 x2 x3 x4 fs k1 k2 (i : Int) = some (x0 ++ t) ∧ Rises i t ∧ ∀ b : Nat, (b : Int) ∈ t ↔ i ≤ b ∧ b < 32 ∧ ∃ g : Nat, (g : Int) ∈ l ∧ Has fs k1 k2 g (b : Int)
  | 0, i, x0, h, hx => by
    rw [alibiref14_Gather_l4, if_neg (by simp only [decide_eq_true_eq]; omega)]
    exact ⟨[], by simp, trivial, fun b => by simp; omega⟩
  | m + 1, i, x0, h, hx => by
    obtain ⟨b, q1, q2⟩ := gather_l8 fs hlen l hln hl x0 x2 x3 x4 k1 k2 (i : Int) l.length 0 false (by omega)
    rw [show ((0 : Nat) : Int) = 0 from rfl] at q1
    rw [alibiref14_Gather_l4, if_pos (decide_eq_true (by omega)), bind_some q1, inc i (by omega)]
    have hb : b = true ↔ ∃ g : Nat, (g : Int) ∈ l ∧ Has fs k1 k2 g (i : Int) := by rw [q2]; simp
    by_cases hbt : b = true
    · rw [if_pos hbt, if_pos (Nat.ble_eq_true_of_le (by simp only [List.length_singleton, reach]; omega))]
      obtain ⟨t, g1, g2, g3⟩ := gather_l4 fs hlen l hln hl x2 x3 x4 k1 k2 m (i + 1) (x0 ++ [(i : Int)]) (by omega) (by simp; omega)
      refine ⟨(i : Int) :: t, by rw [g1]; simp, ⟨Int.le_refl _, by omega, by rw [Int.toNat_natCast]; exact g2⟩, fun c => ?_⟩
      rw [List.mem_cons, g3]
      constructor
      · rintro (h1 | ⟨h1, h2, h3⟩)
        · have : c = i := by omega
          subst this
          exact ⟨Nat.le_refl _, by omega, hb.1 hbt⟩
        · exact ⟨by omega, h2, h3⟩
      · rintro ⟨h1, h2, h3⟩
        rcases Nat.eq_or_lt_of_le h1 with rfl | h4
        · exact .inl rfl
        · exact .inr ⟨h4, h2, h3⟩
    · rw [if_neg hbt]
      obtain ⟨t, g1, g2, g3⟩ := gather_l4 fs hlen l hln hl x2 x3 x4 k1 k2 m (i + 1) x0 (by omega) (by omega)
      refine ⟨t, g1, g2.mono (by omega), fun c => ?_⟩
      rw [g3]
      constructor
      · rintro ⟨h1, h2, h3⟩; exact ⟨by omega, h2, h3⟩
      · rintro ⟨h1, h2, h3⟩
        rcases Nat.eq_or_lt_of_le h1 with rfl | h4
        · exact absurd (hb.2 h3) hbt
        · exact ⟨h4, h2, h3⟩
theorem refgather_eq (p : api_Program) (hg : Good p) (f : Nat) (hf : f < p.funcs.length) (k1 k2 : Int) : ∃ t, alibiref14_Gather p (f : Int) k1 k2 = some t ∧ Rises 0 t ∧ ∀ b : Nat, (b : Int) ∈ t ↔ b < 32 ∧ ∃ g, Path p.funcs f g ∧ Has p.funcs k1 k2 g (b : Int) := by
  obtain ⟨l, q1, q2, q3⟩ := refreach_eq p hg f hf
  have hpath : ∀ {g}, Path p.funcs f g → g < p.funcs.length := fun h => path_closed (S := fun x => x < p.funcs.length) (fun x _ y e => (e.lt hg.calls).2) h hf
  obtain ⟨t, g1, g2, g3⟩ := gather_l4 p.funcs (fun g => by have := hg.le g; omega) l (by have := q2.length_le (by omega); omega) (fun x hx => by
    have h0 := q2.nat x hx
    obtain ⟨b, rfl⟩ : ∃ b : Nat, x = (b : Int) := ⟨x.toNat, by omega⟩
    have := hpath ((q3 b).1 hx)
    omega) p.globals p.locks p.slots k1 k2 32 0 [] rfl (by simp)
  rw [show ((0 : Nat) : Int) = 0 from rfl, List.nil_append] at g1
  unfold alibiref14_Gather
  rw [bind_some q1, bind_some g1]
  refine ⟨t, rfl, g2, fun b => ?_⟩
  rw [g3]
  constructor
  · rintro ⟨_, h1, g, h2, h3⟩; exact ⟨h1, g, (q3 g).1 h2, h3⟩
  · rintro ⟨h1, g, h2, h3⟩; exact ⟨Nat.zero_le _, h1, g, (q3 g).2 h2, h3⟩
end Go.Bm.GoYtldkmmnffjdliaa
