/- Which nodes are come to from behind some: the program's search and the document's rounds. -/
import Derived.Test.YtldkmmnffjdliaaGLawSucc
namespace Go.Bm.GoYtldkmmnffjdliaa
set_option autoImplicit false
set_option linter.unusedVariables false
set_option linter.unusedSimpArgs false
set_option maxRecDepth 100000
/-- A node leads to a node. -/
def To (l : List api_Node) (i y : Nat) : Prop := i < l.length ∧ y < l.length ∧ (y : Int) ∈ succ (List.getD l i d_api_Node)
/-- A node is come to from behind some. -/
inductive Aft (l : List api_Node) (fr : List Int) : Nat → Prop
  | first {i y : Nat} : (i : Int) ∈ fr → To l i y → Aft l fr y
  | more {i y : Nat} : Aft l fr i → To l i y → Aft l fr y
theorem sn_ext : ∀ {a b : List Bool}, a.length = b.length → (∀ y, Sn a y ↔ Sn b y) → a = b
  | [], [], _, _ => rfl
  | x :: a, y :: b, hl, h => by
    have h0 := h 0
    have ih := sn_ext (a := a) (b := b) (by simpa using hl) fun y => h (y + 1)
    unfold Sn at h0
    simp only [List.getD_cons_zero] at h0
    rw [ih, Bool.eq_iff_iff.2 h0]
/-! ### the program's -/
theorem after_l2 (l : List api_Node) (hl : l.length ≤ 65536) (js : List Int) (hj : js.length ≤ 65536) : ∀ (m i : Nat) (s : List Bool) (t : List Int), i + m = js.length → s.length = l.length → t.length + s.count false ≤ 65536 → ∃ s' t', graph_After_1_l2 s t js l (js.length : Int) (i : Int) = some (s', t') ∧ s'.length = l.length ∧ t'.length + s'.count false = t.length + s.count false ∧ (∀ y, Sn s' y ↔ Sn s y ∨ (y < l.length ∧ (y : Int) ∈ js.drop i)) ∧ (∀ z, z ∈ t → z ∈ t') ∧ (∀ y, Sn s' y → Sn s y ∨ (y : Int) ∈ t') ∧ (∀ z, z ∈ t' → z ∈ t ∨ ∃ y : Nat, z = (y : Int) ∧ Sn s' y)
  | 0, i, s, t, h, hs, hc => by
    rw [graph_After_1_l2, if_neg (by simp only [decide_eq_true_eq]; omega), List.drop_eq_nil_of_le (by omega)]
    exact ⟨s, t, rfl, hs, rfl, fun y => by simp, fun z h => h, fun y h => .inl h, fun z h => .inl h⟩
  | m + 1, i, s, t, h, hs, hc => by
    have hlt : i < js.length := by omega
    have hd : js.drop i = js[i] :: js.drop (i + 1) := List.drop_eq_getElem_cons hlt
    have hg : List.getD js i 0 = js[i] := by simp [List.getD, hlt]
    rw [graph_After_1_l2, if_pos (decide_eq_true (by omega)), if_pos (decide_eq_true (by omega)), if_pos (decide_eq_true (by omega)), Int.toNat_natCast, hg, hd, inc i (by omega)]
    have skip : ¬ (∃ y : Nat, js[i] = (y : Int) ∧ y < l.length ∧ ¬ Sn s y) → ∃ s' t', graph_After_1_l2 s t js l (js.length : Int) ((i + 1 : Nat) : Int) = some (s', t') ∧ s'.length = l.length ∧ t'.length + s'.count false = t.length + s.count false ∧ (∀ y, Sn s' y ↔ Sn s y ∨ (y < l.length ∧ (y : Int) ∈ js[i] :: js.drop (i + 1))) ∧ (∀ z, z ∈ t → z ∈ t') ∧ (∀ y, Sn s' y → Sn s y ∨ (y : Int) ∈ t') ∧ (∀ z, z ∈ t' → z ∈ t ∨ ∃ y : Nat, z = (y : Int) ∧ Sn s' y) := by
      intro hno
      obtain ⟨s', t', q1, q2, q3, q4, q5, q6, q7⟩ := after_l2 l hl js hj m (i + 1) s t (by omega) hs hc
      refine ⟨s', t', q1, q2, q3, fun y => ?_, q5, q6, q7⟩
      rw [q4, List.mem_cons]
      constructor
      · rintro (h1 | ⟨h1, h2⟩)
        · exact .inl h1
        · exact .inr ⟨h1, .inr h2⟩
      · rintro (h1 | ⟨h1, h2 | h2⟩)
        · exact .inl h1
        · exact .inl (Classical.byContradiction fun h3 => hno ⟨y, h2.symm, h1, h3⟩)
        · exact .inr ⟨h1, h2⟩
    by_cases h0 : 0 ≤ js[i]
    · rw [if_pos (decide_eq_true (by omega))]
      by_cases h1 : js[i] < (l.length : Int)
      · obtain ⟨x, hx⟩ : ∃ x : Nat, js[i] = (x : Int) := ⟨js[i].toNat, by omega⟩
        rw [if_pos (decide_eq_true (by omega)), if_pos (decide_eq_true (by omega)), if_pos (decide_eq_true (by omega))]
        rw [hx] at h1 skip ⊢
        rw [Int.toNat_natCast x]
        by_cases hsx : Sn s x
        · rw [if_neg (by rw [show List.getD s x false = true from hsx]; decide)]
          refine skip ?_
          rintro ⟨y, h2, h3, h4⟩
          have : y = x := by omega
          subst this
          exact h4 hsx
        · have hf : List.getD s x false = false := by
            unfold Sn at hsx
            simpa using hsx
          have hcs := count_set_true (s := s) (a := x) (by omega) hsx
          rw [if_pos (by rw [hf]; rfl), if_pos (Nat.ble_eq_true_of_le (by simp only [List.length_singleton, reach]; omega))]
          obtain ⟨s', t', q1, q2, q3, q4, q5, q6, q7⟩ := after_l2 l hl js hj m (i + 1) (s.set x true) (t ++ [(x : Int)]) (by omega) (by simpa using hs) (by rw [List.length_append, List.length_singleton]; omega)
          refine ⟨s', t', q1, q2, by rw [q3, List.length_append, List.length_singleton]; omega, fun y => ?_, fun z hz => q5 z (List.mem_append_left _ hz), fun y hy => ?_, fun z hz => ?_⟩
          · rw [q4, Sn_set (by omega), List.mem_cons]
            constructor
            · rintro ((rfl | h2) | ⟨h2, h3⟩)
              · exact .inr ⟨by omega, .inl rfl⟩
              · exact .inl h2
              · exact .inr ⟨h2, .inr h3⟩
            · rintro (h2 | ⟨h2, h3 | h3⟩)
              · exact .inl (.inr h2)
              · exact .inl (.inl (by omega))
              · exact .inr ⟨h2, h3⟩
          · rcases q6 y hy with h2 | h2
            · rcases (Sn_set (by omega)).1 h2 with rfl | h3
              · exact .inr (q5 _ (by simp))
              · exact .inl h3
            · exact .inr h2
          · rcases q7 z hz with h2 | h2
            · rcases List.mem_append.1 h2 with h3 | h3
              · exact .inl h3
              · rw [List.mem_singleton] at h3
                exact .inr ⟨x, h3, (q4 x).2 (.inl ((Sn_set (by omega)).2 (.inl rfl)))⟩
            · exact .inr h2
      · rw [if_neg (by simp only [decide_eq_true_eq]; omega)]
        exact skip (by rintro ⟨y, h2, h3, _⟩; omega)
    · rw [if_neg (by simp only [decide_eq_true_eq]; omega)]
      exact skip (by rintro ⟨y, h2, h3, _⟩; omega)
theorem after_same (l : List api_Node) (js : List Int) (hj : js.length ≤ 65536) : ∀ (m i : Nat) (s : List Bool) (t : List Int), i + m = js.length → graph_After_1_1_l2 s t js l (js.length : Int) (i : Int) = graph_After_1_l2 s t js l (js.length : Int) (i : Int)
  | 0, i, s, t, h => by
    rw [graph_After_1_l2, graph_After_1_1_l2, if_neg (by simp only [decide_eq_true_eq]; omega), if_neg (by simp only [decide_eq_true_eq]; omega)]
  | m + 1, i, s, t, h => by
    have ih := fun s t => after_same l js hj m (i + 1) s t (by omega)
    rw [graph_After_1_l2, graph_After_1_1_l2, inc i (by omega)]
    simp only [ih]
/-- What is added by a node. -/
structure Added (l : List api_Node) (z : Int) (s : List Bool) (t : List Int) (s' : List Bool) (t' : List Int) : Prop where
  len : s'.length = l.length
  cnt : t'.length + s'.count false = t.length + s.count false
  iff : ∀ y, Sn s' y ↔ Sn s y ∨ ∃ i : Nat, z = (i : Int) ∧ To l i y
  keep : ∀ x, x ∈ t → x ∈ t'
  new : ∀ y, Sn s' y → Sn s y ∨ (y : Int) ∈ t'
  old : ∀ x, x ∈ t' → x ∈ t ∨ ∃ y : Nat, x = (y : Int) ∧ Sn s' y
theorem Added.none {l : List api_Node} {z : Int} {s : List Bool} {t : List Int} (hs : s.length = l.length) (h : ∀ i : Nat, z = (i : Int) → ¬ i < l.length) : Added l z s t s t :=
  ⟨hs, rfl, fun y => ⟨.inl, fun h1 => h1.elim (fun h => h) fun ⟨i, e, h2⟩ => absurd h2.1 (h i e)⟩, fun x h => h, fun y h => .inl h, fun x h => .inl h⟩
theorem add1_eq (l : List api_Node) (hl : l.length ≤ 65536) (s : List Bool) (t : List Int) (z : Int) (hs : s.length = l.length) (hc : t.length + s.count false ≤ 65536) : ∃ s' t', graph_After_1 s t l z = some (s', t') ∧ Added l z s t s' t' := by
  unfold graph_After_1
  by_cases h0 : z < 0
  · rw [if_pos (decide_eq_true h0)]
    exact ⟨s, t, rfl, .none hs fun i e => by omega⟩
  · rw [if_neg (by simp only [decide_eq_true_eq]; omega)]
    by_cases h1 : z ≥ (l.length : Int)
    · rw [if_pos (decide_eq_true h1)]
      exact ⟨s, t, rfl, .none hs fun i e => by omega⟩
    · obtain ⟨i, rfl⟩ : ∃ x : Nat, z = (x : Int) := ⟨z.toNat, by omega⟩
      have hle := succ_len (List.getD l i d_api_Node)
      obtain ⟨s', t', q1, q2, q3, q4, q5, q6, q7⟩ := after_l2 l hl (succ (List.getD l i d_api_Node)) (by omega) _ 0 s t (Nat.zero_add _) hs hc
      rw [show ((0 : Nat) : Int) = 0 from rfl] at q1
      rw [if_neg (by simp only [decide_eq_true_eq]; omega), if_pos (decide_eq_true (by omega)), if_pos (decide_eq_true (by omega)), Int.toNat_natCast, bind_some (succ_eq _), bind_some q1]
      refine ⟨s', t', rfl, q2, q3, fun y => ?_, q5, q6, q7⟩
      rw [q4, List.drop_zero]
      constructor
      · rintro (h2 | ⟨h2, h3⟩)
        · exact .inl h2
        · exact .inr ⟨i, rfl, by omega, h2, h3⟩
      · rintro (h2 | ⟨k, h2, h3, h4, h5⟩)
        · exact .inl h2
        · have : k = i := by omega
          subst this
          exact .inr ⟨h4, h5⟩
theorem add11_eq (l : List api_Node) (hl : l.length ≤ 65536) (s : List Bool) (t : List Int) (k : Nat) (hk : k ≤ t.length) (z : Int) (hs : s.length = l.length) (hc : (t.take k).length + s.count false ≤ 65536) : ∃ s' t', graph_After_1_1 s t l k z = some (s', t') ∧ Added l z s (t.take k) s' t' := by
  obtain ⟨s', t', q1, q2⟩ := add1_eq l hl s (t.take k) z hs hc
  refine ⟨s', t', ?_, q2⟩
  rw [← q1]
  unfold graph_After_1_1 graph_After_1
  rw [if_pos (decide_eq_true hk)]
  by_cases h0 : z < 0
  · have c0 : decide (z < 0) = true := decide_eq_true h0
    rw [if_pos c0, if_pos c0]
  · have c0 : ¬ decide (z < 0) = true := by simpa using h0
    rw [if_neg c0, if_neg c0]
    by_cases h1 : z ≥ (l.length : Int)
    · have c1 : decide (z ≥ (l.length : Int)) = true := decide_eq_true h1
      rw [if_pos c1, if_pos c1]
    · have c1 : ¬ decide (z ≥ (l.length : Int)) = true := by simpa using h1
      have c2 : decide ((0 : Int) ≤ z) = true := decide_eq_true (by omega)
      have c3 : decide (z < (l.length : Int)) = true := decide_eq_true (by omega)
      rw [if_neg c1, if_neg c1, if_pos c2, if_pos c2, if_pos c3, if_pos c3, bind_some (succ_eq _), bind_some (succ_eq _)]
      have hle := succ_len (List.getD l z.toNat d_api_Node)
      have := after_same l (succ (List.getD l z.toNat d_api_Node)) (by omega) _ 0 s (t.take k) (Nat.zero_add _)
      rw [show ((0 : Nat) : Int) = 0 from rfl] at this
      rw [this]
theorem after_l5 (l : List api_Node) (hl : l.length ≤ 65536) (fr : List Int) (hf : fr.length ≤ 65536) : ∀ (m i : Nat) (s : List Bool) (t : List Int), i + m = fr.length → s.length = l.length → t.length + s.count false ≤ 65536 → (∀ y, Sn s y → (y : Int) ∈ t) → (∀ z, z ∈ t → ∃ y : Nat, z = (y : Int) ∧ Sn s y) → ∃ s' t', graph_After_l5 s t l fr (fr.length : Int) (i : Int) = some (s', t') ∧ s'.length = l.length ∧ t'.length + s'.count false = t.length + s.count false ∧ (∀ y, Sn s' y ↔ Sn s y ∨ ∃ x : Nat, (x : Int) ∈ fr.drop i ∧ To l x y) ∧ (∀ y, Sn s' y → (y : Int) ∈ t') ∧ (∀ z, z ∈ t' → ∃ y : Nat, z = (y : Int) ∧ Sn s' y)
  | 0, i, s, t, h, hs, hc, ha, hb => by
    rw [graph_After_l5, if_neg (by simp only [decide_eq_true_eq]; omega), List.drop_eq_nil_of_le (by omega)]
    exact ⟨s, t, rfl, hs, rfl, fun y => by simp, ha, hb⟩
  | m + 1, i, s, t, h, hs, hc, ha, hb => by
    have hlt : i < fr.length := by omega
    have hd : fr.drop i = fr[i] :: fr.drop (i + 1) := List.drop_eq_getElem_cons hlt
    have hg : List.getD fr i 0 = fr[i] := by simp [List.getD, hlt]
    obtain ⟨s1, t1, q1, q2⟩ := add1_eq l hl s t fr[i] hs hc
    have c1 := q2.cnt
    rw [graph_After_l5, if_pos (decide_eq_true (by omega)), if_pos (decide_eq_true (by omega)), if_pos (decide_eq_true (by omega)), Int.toNat_natCast, hg, hd, inc i (by omega), bind_some q1]
    obtain ⟨s', t', k1, k2, k3, k4, k5, k6⟩ := after_l5 l hl fr hf m (i + 1) s1 t1 (by omega) q2.len (by omega) (fun y hy => (q2.new y hy).elim (fun h => q2.keep _ (ha y h)) fun h => h) (fun z hz => (q2.old z hz).elim (fun h => by
      obtain ⟨y, e, h1⟩ := hb z h
      exact ⟨y, e, (q2.iff y).2 (.inl h1)⟩) fun h => h)
    refine ⟨s', t', k1, k2, by omega, fun y => ?_, k5, k6⟩
    rw [k4, q2.iff]
    constructor
    · rintro ((h1 | ⟨x, h1, h2⟩) | ⟨x, h1, h2⟩)
      · exact .inl h1
      · exact .inr ⟨x, by rw [← h1]; exact List.mem_cons_self, h2⟩
      · exact .inr ⟨x, List.mem_cons_of_mem _ h1, h2⟩
    · rintro (h1 | ⟨x, h1, h2⟩)
      · exact .inl (.inl h1)
      · rcases List.mem_cons.1 h1 with h3 | h3
        · exact .inl (.inr ⟨x, h3.symm, h2⟩)
        · exact .inr ⟨x, h3, h2⟩
theorem take_last {t : List Int} (h : t ≠ []) : ∃ t0 z, t = t0 ++ [z] := ⟨t.dropLast, t.getLast h, (List.dropLast_concat_getLast h).symm⟩
theorem after_l9 (l : List api_Node) (hl : l.length ≤ 65536) (P : Nat → Prop) (hP : ∀ x y, P x → To l x y → P y) : ∀ (n : Nat) (s : List Bool) (t : List Int), t.length + s.count false ≤ n → n ≤ 65536 → s.length = l.length → (∀ z, z ∈ t → ∃ y : Nat, z = (y : Int) ∧ Sn s y) → (∀ y, Sn s y → P y) → (∀ x y, Sn s x → (x : Int) ∉ t → To l x y → Sn s y) → ∃ s', graph_After_l9 s t l = some s' ∧ s'.length = l.length ∧ (∀ y, Sn s y → Sn s' y) ∧ (∀ y, Sn s' y → P y) ∧ ∀ x y, Sn s' x → To l x y → Sn s' y
  | n, s, t, hn, hb, hs, ht, hsP, hcl => by
    by_cases he : t = []
    · subst he
      rw [graph_After_l9, if_neg (by simp)]
      exact ⟨s, rfl, hs, fun y h => h, hsP, fun x y hx e => hcl x y hx (by simp) e⟩
    · obtain ⟨t0, z, rfl⟩ := take_last he
      rw [List.length_append, List.length_singleton] at hn
      have hsub : iSub (((t0 ++ [z]).length : Nat) : Int) 1 = (t0.length : Int) := by
        rw [List.length_append, List.length_singleton, iSub_eq (by omega) (by omega)]
        omega
      have htk : (t0 ++ [z]).take t0.length = t0 := by simp
      have hgz : List.getD (t0 ++ [z]) t0.length 0 = z := by simp [List.getD]
      obtain ⟨s1, t1, q1, q2⟩ := add11_eq l hl s (t0 ++ [z]) t0.length (by simp) z hs (by rw [htk]; omega)
      rw [htk] at q2
      have c1 := q2.cnt
      have hlen : (t0 ++ [z]).length = t0.length + 1 := by simp
      rw [graph_After_l9, hsub, if_pos (decide_eq_true (by omega)), if_pos (decide_eq_true (by omega)), if_pos (decide_eq_true (by omega)), if_pos (decide_eq_true (by omega)), Int.toNat_natCast, hgz, bind_some q1]
      obtain ⟨n', rfl⟩ : ∃ n', n = n' + 1 := ⟨n - 1, by omega⟩
      obtain ⟨s', k1, k2, k3, k4, k5⟩ := after_l9 l hl P hP n' s1 t1 (by omega) (by omega) q2.len (fun x hx => (q2.old x hx).elim (fun h => by
        obtain ⟨y, e, h1⟩ := ht x (List.mem_append_left _ h)
        exact ⟨y, e, (q2.iff y).2 (.inl h1)⟩) fun h => h) (fun y hy => ((q2.iff y).1 hy).elim (hsP y) fun ⟨i, e, h1⟩ => by
          obtain ⟨y', e', h2⟩ := ht z (by simp)
          have : y' = i := by omega
          subst this
          exact hP _ _ (hsP _ h2) h1) (fun x y hx hnx e => by
        rcases q2.new x hx with h1 | h1
        · by_cases hxt : (x : Int) ∈ t0 ++ [z]
          · rcases List.mem_append.1 hxt with h2 | h2
            · exact absurd (q2.keep _ h2) hnx
            · rw [List.mem_singleton] at h2
              exact (q2.iff y).2 (.inr ⟨x, h2.symm, e⟩)
          · exact (q2.iff y).2 (.inl (hcl x y h1 hxt e))
        · exact absurd h1 hnx)
      exact ⟨s', k1, k2, fun y hy => k3 y ((q2.iff y).2 (.inl hy)), k4, k5⟩
theorem after_eq (l : List api_Node) (hl : l.length ≤ 65536) (fr : List Int) (hf : fr.length ≤ 65536) : ∃ a, graph_After l fr = some a ∧ a.length = l.length ∧ ∀ y, Sn a y ↔ Aft l fr y := by
  have hcnt := List.count_le_length (a := false) (l := List.replicate l.length false)
  rw [List.length_replicate] at hcnt
  obtain ⟨s1, t1, q1, q2, q3, q4, q5, q6⟩ := after_l5 l hl fr hf fr.length 0 (List.replicate l.length false) [] (Nat.zero_add _) (by simp) (by simp only [List.length_nil]; omega) (fun y h => absurd h (sn_replicate _ _)) (fun z h => by cases h)
  rw [show ((0 : Nat) : Int) = 0 from rfl] at q1
  simp only [List.length_nil] at q3
  obtain ⟨s', k1, k2, k3, k4, k5⟩ := after_l9 l hl (Aft l fr) (fun x y h e => .more h e) 65536 s1 t1 (by omega) (Nat.le_refl _) q2 q6 (fun y hy => by
    rcases (q4 y).1 hy with h | ⟨x, h1, h2⟩
    · exact absurd h (sn_replicate _ _)
    · exact .first (by simpa using h1) h2) (fun x y hx hn _ => absurd (q5 x hx) hn)
  unfold graph_After
  rw [if_pos (decide_eq_true (by omega)), if_pos (decide_eq_true (by simp only [reach]; omega)), Int.toNat_natCast, bind_some q1, bind_some k1]
  refine ⟨s', rfl, k2, fun y => ⟨k4 y, fun h => ?_⟩⟩
  induction h with
  | first h1 h2 => exact k3 _ ((q4 _).2 (.inr ⟨_, by simpa using h1, h2⟩))
  | more _ h2 ih => exact k5 _ _ ih h2
/-! ### the document's -/
theorem refhas6_l2 (l : List Int) (hl : l.length ≤ 65536) (z : Int) : ∀ (m i : Nat), i + m = l.length → alibiref06_has_l2 l z (i : Int) = some (if z ∈ l.drop i then .x0 true else .x1)
  | 0, i, h => by
    rw [alibiref06_has_l2, if_neg (by simp only [decide_eq_true_eq]; omega), List.drop_eq_nil_of_le (by omega), if_neg (by simp)]
  | m + 1, i, h => by
    have hlt : i < l.length := by omega
    have hd : l.drop i = l[i] :: l.drop (i + 1) := List.drop_eq_getElem_cons hlt
    have hg : List.getD l i 0 = l[i] := by simp [List.getD, hlt]
    rw [alibiref06_has_l2, if_pos (decide_eq_true (by omega)), if_pos (decide_eq_true (by omega)), if_pos (decide_eq_true (by omega)), Int.toNat_natCast, hg, hd, inc i (by omega)]
    by_cases e : l[i] = z
    · rw [if_pos (eqT e), if_pos (by rw [e]; simp)]
    · rw [if_neg (eqF e), refhas6_l2 l hl z m (i + 1) (by omega)]
      have : z ∈ l[i] :: l.drop (i + 1) ↔ z ∈ l.drop (i + 1) := by
        rw [List.mem_cons]
        exact ⟨fun h => h.elim (fun h => absurd h.symm e) fun h => h, .inr⟩
      simp only [this]
theorem refhas6_eq (l : List Int) (hl : l.length ≤ 65536) (z : Int) : alibiref06_has l z = some (decide (z ∈ l)) := by
  have q := refhas6_l2 l hl z l.length 0 (Nat.zero_add _)
  rw [show ((0 : Nat) : Int) = 0 from rfl, List.drop_zero] at q
  unfold alibiref06_has
  rw [bind_some q]
  by_cases h : z ∈ l
  · rw [if_pos h]; simp [h]
  · rw [if_neg h]; simp [h]
theorem refafter_l11 (l : List api_Node) (hl : l.length ≤ 65536) (js : List Int) (hj : js.length ≤ 65536) (x3 : List Int) (x4 x5 : Int) : ∀ (m i : Nat) (s : List Bool), i + m = js.length → s.length = l.length → ∃ s', alibiref06_After_l11 s js l x3 x4 x5 (i : Int) = some s' ∧ s'.length = l.length ∧ ∀ y, Sn s' y ↔ Sn s y ∨ (y < l.length ∧ (y : Int) ∈ js.drop i)
  | 0, i, s, h, hs => by
    rw [alibiref06_After_l11, if_neg (by simp only [decide_eq_true_eq]; omega), List.drop_eq_nil_of_le (by omega)]
    exact ⟨s, rfl, hs, fun y => by simp⟩
  | m + 1, i, s, h, hs => by
    have hlt : i < js.length := by omega
    have hd : js.drop i = js[i] :: js.drop (i + 1) := List.drop_eq_getElem_cons hlt
    have hg : List.getD js i 0 = js[i] := by simp [List.getD, hlt]
    rw [alibiref06_After_l11, if_pos (decide_eq_true (by omega)), if_pos (decide_eq_true (by omega)), if_pos (decide_eq_true (by omega)), Int.toNat_natCast, hg, hd, inc i (by omega)]
    have skip : ¬ (∃ y : Nat, js[i] = (y : Int) ∧ y < l.length) → ∃ s', alibiref06_After_l11 s js l x3 x4 x5 ((i + 1 : Nat) : Int) = some s' ∧ s'.length = l.length ∧ ∀ y, Sn s' y ↔ Sn s y ∨ (y < l.length ∧ (y : Int) ∈ js[i] :: js.drop (i + 1)) := by
      intro hno
      obtain ⟨s', q1, q2, q3⟩ := refafter_l11 l hl js hj x3 x4 x5 m (i + 1) s (by omega) hs
      refine ⟨s', q1, q2, fun y => ?_⟩
      rw [q3, List.mem_cons]
      constructor
      · rintro (h1 | ⟨h1, h2⟩)
        · exact .inl h1
        · exact .inr ⟨h1, .inr h2⟩
      · rintro (h1 | ⟨h1, h2 | h2⟩)
        · exact .inl h1
        · exact absurd ⟨y, h2.symm, h1⟩ hno
        · exact .inr ⟨h1, h2⟩
    by_cases h0 : 0 ≤ js[i]
    · rw [if_pos (decide_eq_true (by omega))]
      by_cases h1 : js[i] < (l.length : Int)
      · obtain ⟨x, hx⟩ : ∃ x : Nat, js[i] = (x : Int) := ⟨js[i].toNat, by omega⟩
        rw [if_pos (decide_eq_true (by omega)), if_pos (decide_eq_true (by omega)), if_pos (decide_eq_true (by omega))]
        rw [hx] at h1 ⊢
        rw [Int.toNat_natCast x]
        obtain ⟨s', q1, q2, q3⟩ := refafter_l11 l hl js hj x3 x4 x5 m (i + 1) (s.set x true) (by omega) (by simpa using hs)
        refine ⟨s', q1, q2, fun y => ?_⟩
        rw [q3, Sn_set (by omega), List.mem_cons]
        constructor
        · rintro ((rfl | h2) | ⟨h2, h3⟩)
          · exact .inr ⟨by omega, .inl rfl⟩
          · exact .inl h2
          · exact .inr ⟨h2, .inr h3⟩
        · rintro (h2 | ⟨h2, h3 | h3⟩)
          · exact .inl (.inr h2)
          · exact .inl (.inl (by omega))
          · exact .inr ⟨h2, h3⟩
      · rw [if_neg (by simp only [decide_eq_true_eq]; omega)]
        exact skip (by rintro ⟨y, h2, h3⟩; omega)
    · rw [if_neg (by simp only [decide_eq_true_eq]; omega)]
      exact skip (by rintro ⟨y, h2, h3⟩; omega)
/-- A node from which is gone on. -/
def Goes (fr : List Int) (s : List Bool) (x : Nat) : Prop := (x : Int) ∈ fr ∨ Sn s x
theorem refafter_l6 (l : List api_Node) (hl : l.length ≤ 65536) (fr : List Int) (hf : fr.length ≤ 65536) (x3 : Int) : ∀ (m i : Nat) (s : List Bool), i + m = l.length → s.length = l.length → ∃ s', alibiref06_After_l6 s l fr x3 (i : Int) = some s' ∧ s'.length = l.length ∧ (∀ y, Sn s y → Sn s' y) ∧ (∀ Q : Nat → Prop, (∀ x y : Nat, ((x : Int) ∈ fr ∨ Q x) → To l x y → Q y) → (∀ y, Sn s y → Q y) → ∀ y, Sn s' y → Q y) ∧ ∀ x y, i ≤ x → Goes fr s x → To l x y → Sn s' y
  | 0, i, s, h, hs => by
    rw [alibiref06_After_l6, if_neg (by simp only [decide_eq_true_eq]; omega)]
    exact ⟨s, rfl, hs, fun y h => h, fun Q _ h => h, fun x y hx _ e => by have := e.1; omega⟩
  | m + 1, i, s, h, hs => by
    have hle := succ_len (List.getD l i d_api_Node)
    rw [alibiref06_After_l6, if_pos (decide_eq_true (by omega)), bind_some (refhas6_eq fr hf _), inc i (by omega)]
    have go : Goes fr s i → ∃ s', (bind (alibiref06_After_l11 s (succ (List.getD l i d_api_Node)) l fr x3 (i : Int) 0) fun v => alibiref06_After_l6 v l fr x3 ((i + 1 : Nat) : Int)) = some s' ∧ s'.length = l.length ∧ (∀ y, Sn s y → Sn s' y) ∧ (∀ Q : Nat → Prop, (∀ x y : Nat, ((x : Int) ∈ fr ∨ Q x) → To l x y → Q y) → (∀ y, Sn s y → Q y) → ∀ y, Sn s' y → Q y) ∧ ∀ x y, i ≤ x → Goes fr s x → To l x y → Sn s' y := by
      intro hgo
      obtain ⟨s1, q1, q2, q3⟩ := refafter_l11 l hl (succ (List.getD l i d_api_Node)) (by omega) fr x3 (i : Int) _ 0 s (Nat.zero_add _) hs
      rw [show ((0 : Nat) : Int) = 0 from rfl] at q1
      rw [bind_some q1]
      obtain ⟨s', k1, k2, k3, k4, k5⟩ := refafter_l6 l hl fr hf x3 m (i + 1) s1 (by omega) q2
      refine ⟨s', k1, k2, fun y hy => k3 y ((q3 y).2 (.inl hy)), fun Q hQ hs1 => k4 Q hQ fun y hy => ?_, fun x y hx hg e => ?_⟩
      · rcases (q3 y).1 hy with h1 | ⟨h1, h2⟩
        · exact hs1 y h1
        · exact hQ i y (hgo.elim .inl fun h => .inr (hs1 i h)) ⟨by omega, h1, by simpa using h2⟩
      · rcases Nat.eq_or_lt_of_le hx with rfl | hx
        · exact k3 y ((q3 y).2 (.inr ⟨e.2.1, by simpa using e.2.2⟩))
        · exact k5 x y hx (hg.elim .inl fun h => .inr ((q3 x).2 (.inl h))) e
    by_cases hin : (i : Int) ∈ fr
    · rw [if_neg (by simp [hin]), if_pos (decide_eq_true (by omega)), if_pos (decide_eq_true (by omega)), Int.toNat_natCast, bind_some (refsucc_eq _)]
      exact go (.inl hin)
    · rw [if_pos (by simp [hin]), if_pos (decide_eq_true (by omega)), if_pos (decide_eq_true (by omega)), Int.toNat_natCast]
      by_cases hsi : Sn s i
      · rw [if_neg (by rw [show List.getD s i false = true from hsi]; decide), if_pos (decide_eq_true (by omega)), bind_some (refsucc_eq _)]
        exact go (.inr hsi)
      · have hf1 : List.getD s i false = false := by
          unfold Sn at hsi
          simpa using hsi
        rw [if_pos (by rw [hf1]; rfl)]
        obtain ⟨s', k1, k2, k3, k4, k5⟩ := refafter_l6 l hl fr hf x3 m (i + 1) s (by omega) hs
        refine ⟨s', k1, k2, k3, k4, fun x y hx hg e => ?_⟩
        rcases Nat.eq_or_lt_of_le hx with rfl | hx
        · exact (hg.elim hin hsi).elim
        · exact k5 x y hx hg e
theorem count_lt6 {s s' : List Bool} (hl : s.length = s'.length) (h : ∀ y, Sn s y → Sn s' y) {y : Nat} (h1 : ¬ Sn s y) (h2 : Sn s' y) : s'.count false + 1 ≤ s.count false := by
  have hy : y < s.length := by have := h2.lt; omega
  have h3 := count_set_true hy h1
  have h4 := count_mono (s.set y true) s' (by simpa using hl) fun x hx => by
    rcases (Sn_set hy).1 hx with rfl | hx
    · exact h2
    · exact h x hx
  omega
def Shut (l : List api_Node) (fr : List Int) (s : List Bool) : Prop := ∀ x y, Goes fr s x → To l x y → Sn s y
theorem refafter_l3 (l : List api_Node) (hl : l.length ≤ 65536) (fr : List Int) (hf : fr.length ≤ 65536) : ∀ (m r : Nat) (s : List Bool), r + m = l.length + 1 → s.length = l.length → ∃ s', alibiref06_After_l3 s l fr (r : Int) = some s' ∧ s'.length = l.length ∧ (∀ y, Sn s y → Sn s' y) ∧ (∀ Q : Nat → Prop, (∀ x y : Nat, ((x : Int) ∈ fr ∨ Q x) → To l x y → Q y) → (∀ y, Sn s y → Q y) → ∀ y, Sn s' y → Q y) ∧ (Shut l fr s' ∨ s'.count false + m ≤ s.count false)
  | 0, r, s, h, hs => by
    rw [alibiref06_After_l3, if_neg (by simp only [decide_eq_true_eq]; omega)]
    exact ⟨s, rfl, hs, fun y h => h, fun Q _ h => h, .inr (by omega)⟩
  | m + 1, r, s, h, hs => by
    obtain ⟨s1, g1, g2, g3, g4, g5⟩ := refafter_l6 l hl fr hf (r : Int) l.length 0 s (by omega) hs
    rw [show ((0 : Nat) : Int) = 0 from rfl] at g1
    rw [alibiref06_After_l3, if_pos (decide_eq_true (by omega)), bind_some g1, inc r (by omega)]
    obtain ⟨s', k1, k2, k3, k4, k5⟩ := refafter_l3 l hl fr hf m (r + 1) s1 (by omega) g2
    refine ⟨s', k1, k2, fun y hy => k3 y (g3 y hy), fun Q hQ hsQ => k4 Q hQ (g4 Q hQ hsQ), ?_⟩
    by_cases hcl : Shut l fr s
    · left
      have e1 : ∀ y, Sn s1 y → Sn s y := g4 (Sn s) (fun x y hx e => hcl x y hx e) fun y h => h
      have e2 : ∀ y, Sn s' y → Sn s y := k4 (Sn s) (fun x y hx e => hcl x y hx e) e1
      exact fun x y hx e => k3 y (g3 y (hcl x y (hx.elim .inl fun h => .inr (e2 x h)) e))
    · rcases k5 with k5 | k5
      · exact .inl k5
      · right
        have : ∃ x y, Goes fr s x ∧ To l x y ∧ ¬ Sn s y := by
          apply Classical.byContradiction
          intro hno
          exact hcl fun x y hx e => Classical.byContradiction fun h => hno ⟨x, y, hx, e, h⟩
        obtain ⟨x, y, h1, h2, h3⟩ := this
        have := count_lt6 (by omega) g3 h3 (g5 x y (Nat.zero_le _) h1 h2)
        omega
theorem refafter_eq (l : List api_Node) (hl : l.length ≤ 65536) (fr : List Int) (hf : fr.length ≤ 65536) : ∃ a, alibiref06_After l fr = some a ∧ a.length = l.length ∧ ∀ y, Sn a y ↔ Aft l fr y := by
  have hcnt := List.count_le_length (a := false) (l := List.replicate l.length false)
  rw [List.length_replicate] at hcnt
  obtain ⟨s', k1, k2, k3, k4, k5⟩ := refafter_l3 l hl fr hf (l.length + 1) 0 (List.replicate l.length false) (Nat.zero_add _) (by simp)
  rw [show ((0 : Nat) : Int) = 0 from rfl] at k1
  have hsh : Shut l fr s' := by
    rcases k5 with h | h
    · exact h
    · omega
  unfold alibiref06_After
  rw [if_pos (decide_eq_true (by omega)), if_pos (decide_eq_true (by simp only [reach]; omega)), Int.toNat_natCast, bind_some k1]
  refine ⟨s', rfl, k2, fun y => ⟨k4 (Aft l fr) (fun x y hx e => hx.elim (fun h => .first h e) fun h => .more h e) (fun y h => absurd h (sn_replicate _ _)) y, fun h => ?_⟩⟩
  induction h with
  | first h1 h2 => exact hsh _ _ (.inl h1) h2
  | more _ h2 ih => exact hsh _ _ (.inr ih) h2
end Go.Bm.GoYtldkmmnffjdliaa
