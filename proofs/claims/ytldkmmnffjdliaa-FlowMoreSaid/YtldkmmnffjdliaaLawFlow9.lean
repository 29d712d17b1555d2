/- The laws of the solver: it answers the document's sets; they keep the rules; they are the best; more rules make less, and have more. -/
import Derived.Test.YtldkmmnffjdliaaLawFlowD
namespace Go.Bm.GoYtldkmmnffjdliaa
set_option autoImplicit false
set_option linter.unusedVariables false
set_option linter.unusedSimpArgs false
theorem same_l4 (a : List W32) (ha : a.length ≤ 65536) : ∀ (n i : Nat), i + n = a.length → alibilaw21_same_l4 a a (i : Int) = some .x1
  | 0, i, h => by rw [alibilaw21_same_l4, if_neg (by simp only [decide_eq_true_eq]; omega)]
  | n + 1, i, h => by
    have hi : iAdd (i : Int) 1 = ((i + 1 : Nat) : Int) := by rw [iAdd_eq (by omega) (by omega)]; omega
    rw [alibilaw21_same_l4, if_pos (decide_eq_true (by omega)), if_pos (decide_eq_true (by omega)), if_pos (decide_eq_true (by omega)), if_pos (decide_eq_true (by omega)), if_neg (by simp), hi]
    exact same_l4 a ha n (i + 1) (by omega)
theorem same_eq (a : List W32) (ha : a.length ≤ 65536) : alibilaw21_same a a = some true := by
  unfold alibilaw21_same
  rw [if_neg (by simp)]
  have := same_l4 a ha a.length 0 (by omega)
  rw [show ((0 : Nat) : Int) = 0 from rfl] at this
  rw [this]
  rfl
theorem base_len (n : Int) (x : W32) : (if 0 ≤ n ∧ n ≤ 65536 then List.replicate n.toNat x else []).length ≤ 65536 := by
  split
  · simp; omega
  · simp
theorem solves_tail (n1 : Int) (top : W32) (l : List flow_Rule) (hl : l.length ≤ 65536) : (bind (flow_Greatest n1 top l) fun v13 => bind (alibilaw21_of l) fun v15 => bind (alibiref21_Solve n1 top v15 true) fun v17 => bind (alibilaw21_same v13 v17) fun v19 =>
    if v19 = true then bind (flow_Least n1 l) fun v22 => bind (alibilaw21_of l) fun v24 => bind (alibiref21_Solve n1 top v24 false) fun v26 => bind (alibilaw21_same v22 v26) fun v28 => some v28 else some false) = some true := by
  obtain ⟨a, a1, a2⟩ := greatest_eq n1 top l hl
  obtain ⟨b, b1, b2⟩ := refSolve_up n1 top l hl
  obtain ⟨c, c1, c2⟩ := Dual.least_eq n1 l hl
  obtain ⟨d, d1, d2⟩ := Dual.refSolve_low n1 top l hl
  have e1 : a = b := a2.unique b2
  have e2 : c = d := c2.unique d2
  subst e1 e2
  rw [a1, of_eq l hl]
  simp only [bind, Option.bind_some]
  rw [b1]
  simp only [Option.bind_some]
  rw [same_eq a (by rw [a2.len]; exact base_len n1 top)]
  simp only [Option.bind_some, if_true]
  rw [c1]
  simp only [Option.bind_some]
  rw [d1]
  simp only [Option.bind_some]
  rw [same_eq c (by rw [c2.len]; exact base_len n1 _)]
  rfl
theorem flowSolves (n1 : Int) (top : W32) (l : List flow_Rule) : alibilaw21_FlowSolves n1 top l = some true := by
  unfold alibilaw21_FlowSolves
  rw [awake_ok]
  simp only [bind, Option.bind_some, Bool.not_true, Bool.false_eq_true, if_false]
  by_cases hl : ((l.length : Nat) : Int) > 60
  · rw [if_pos (decide_eq_true hl)]
  · rw [if_neg (by simpa using hl)]
    have := solves_tail n1 top l (by omega)
    simp only [bind] at this
    rw [this]
    split
    · split <;> rfl
    · rfl
theorem getD_gi {v : List W32} {i : Nat} (h : i < v.length) : List.getD v (Int.toNat (i : Int)) 0#32 = gi v (i : Int) := by
  unfold gi
  rw [if_pos ⟨by omega, by omega⟩]
theorem getD_gi' {v : List W32} {i : Int} (h0 : 0 ≤ i) (h : i < v.length) : List.getD v (Int.toNat i) 0#32 = gi v i := by
  unfold gi
  rw [if_pos ⟨h0, h⟩]
theorem cond_sub {a b : W32} (h : sub a b) : ¬ ((a &&& ~~~b) != 0#32) = true := by simp [(sub_iff a b).1 h]
theorem rem60 (n : Nat) : iRem (n : Int) 60 = ((n % 60 : Nat) : Int) := by
  unfold iRem
  rw [Int.tmod_eq_emod_of_nonneg (by omega)]
  omega
theorem gi_rep (n : Nat) (x : W32) (j : Int) : sub (gi (List.replicate n x) j) x := by
  unfold gi
  split
  · rename_i h
    rw [List.length_replicate] at h
    have : (List.replicate n x).getD j.toNat 0#32 = x := by simp [List.getD, show j.toNat < n by omega]
    rw [this]
    exact sub.refl _
  · exact zero_sub _
theorem gi_rep' (n : Nat) (x : W32) {j : Int} (h0 : 0 ≤ j) (h : j < (n : Int)) : gi (List.replicate n x) j = x := by
  unfold gi
  rw [if_pos ⟨h0, by simpa using h⟩]
  simp [List.getD, show j.toNat < n by omega]
theorem gi_zero (n : Nat) (j : Int) : gi (List.replicate n 0#32) j = 0#32 := (gi_rep n 0#32 j).antisymm (zero_sub _)
theorem gi_out {v : List W32} {j : Int} (h : ¬ (0 ≤ j ∧ j < v.length)) : gi v j = 0#32 := if_neg h
theorem sub_zero (a : W32) : Dual.sub a 0#32 := zero_sub a
theorem base_nat (n : Nat) (hn : n ≤ 65536) (x : W32) : (if 0 ≤ (n : Int) ∧ (n : Int) ≤ 65536 then List.replicate (n : Int).toNat x else []) = List.replicate n x := by
  rw [if_pos (by omega)]
  rfl
/-! ### they keep the rules -/
theorem keeps_l7 (up down : List W32) (top : W32) (l : List flow_Rule) (hu : up.length ≤ 65536) (hs : ∀ j, sub (gi up j) top) : ∀ (n i : Nat), i + n = up.length → alibilaw21_FlowKeeps_l7 up down top l (i : Int) = some .x1
  | 0, i, h => by rw [alibilaw21_FlowKeeps_l7, if_neg (by simp only [decide_eq_true_eq]; omega)]
  | n + 1, i, h => by
    have hi : iAdd (i : Int) 1 = ((i + 1 : Nat) : Int) := by rw [iAdd_eq (by omega) (by omega)]; omega
    rw [alibilaw21_FlowKeeps_l7, if_pos (decide_eq_true (by omega)), if_pos (decide_eq_true (by omega)), if_pos (decide_eq_true (by omega)), getD_gi (by omega), if_neg (cond_sub (hs _)), hi]
    exact keeps_l7 up down top l hu hs n (i + 1) (by omega)
theorem keeps_l12 (up down : List W32) (l : List flow_Rule) (hl : l.length ≤ 65536) (hd : down.length = up.length) (h1 : Keeps l up.length up) (h2 : Dual.Keeps l up.length down) : ∀ (n i : Nat), i + n = l.length → alibilaw21_FlowKeeps_l12 up down l (i : Int) = some .x1
  | 0, i, h => by rw [alibilaw21_FlowKeeps_l12, if_neg (by simp only [decide_eq_true_eq]; omega)]
  | n + 1, i, h => by
    have hi : iAdd (i : Int) 1 = ((i + 1 : Nat) : Int) := by rw [iAdd_eq (by omega) (by omega)]; omega
    have hlt : i < l.length := by omega
    have e : List.getD l (Int.toNat (i : Int)) d_flow_Rule = l[i] := by simp [List.getD, hlt]
    have ih := keeps_l12 up down l hl hd h1 h2 n (i + 1) (by omega)
    rw [alibilaw21_FlowKeeps_l12, if_pos (decide_eq_true (by omega)), if_pos (decide_eq_true (by omega)), if_pos (decide_eq_true (by omega)), e, hi, ih]
    by_cases c0 : l[i].to_ < 0
    · rw [if_pos (decide_eq_true c0)]
    · rw [if_neg (by simpa using c0)]
      by_cases c1 : l[i].to_ ≥ (up.length : Int)
      · rw [if_pos (decide_eq_true c1)]
      · rw [if_neg (by simpa using c1), if_pos (decide_eq_true (by omega)), if_pos (decide_eq_true (by omega)), value_eq]
        simp only [bind, Option.bind_some]
        rw [getD_gi' (by omega) (by omega), if_neg (cond_sub (h1 _ (List.getElem_mem hlt) (by omega) (by omega))), value_eq]
        simp only [Option.bind_some]
        rw [if_pos (decide_eq_true (by omega)), getD_gi' (by omega) (by omega), if_neg (cond_sub (h2 _ (List.getElem_mem hlt) (by omega) (by omega)))]
theorem flowKeeps (n1 : BitVec 8) (top : W32) (l : List flow_Rule) : alibilaw21_FlowKeeps n1 top l = some true := by
  unfold alibilaw21_FlowKeeps
  rw [awake_ok]
  simp only [bind, Option.bind_some, Bool.not_true, Bool.false_eq_true, if_false]
  by_cases hl : ((l.length : Nat) : Int) > 60
  · rw [if_pos (decide_eq_true hl)]
  · rw [if_neg (by simpa using hl), rem60]
    have hk : n1.toNat % 60 < 60 := Nat.mod_lt _ (by decide)
    generalize n1.toNat % 60 = k at hk
    obtain ⟨a, a1, a2⟩ := greatest_eq (k : Int) top l (by omega)
    obtain ⟨c, c1, c2⟩ := Dual.least_eq (k : Int) l (by omega)
    rw [base_nat k (by omega)] at a2 c2
    have la : a.length = k := by simpa using a2.len
    have lc : c.length = k := by simpa using c2.len
    rw [a1]
    simp only [Option.bind_some]
    rw [c1]
    simp only [Option.bind_some]
    rw [if_neg (by simp [la]), if_neg (by simp [lc])]
    have q1 := keeps_l7 a c top l (by omega) (fun j => (a2.sub j).trans (gi_rep _ _ _)) a.length 0 (by omega)
    have q2 := keeps_l12 a c l (by omega) (by omega) (by have := a2.keeps; rw [List.length_replicate] at this; rw [la]; exact this) (by have := c2.keeps; rw [List.length_replicate] at this; rw [la]; exact this) l.length 0 (by omega)
    rw [show ((0 : Nat) : Int) = 0 from rfl] at q1 q2
    rw [q1]
    simp only [Option.bind_some]
    rw [q2]
    rfl
/-! ### they are the best -/
theorem best_l5 (v : List W32) (top : W32) (l : List flow_Rule) (hv : v.length ≤ 65536) (y : Bool) : ∀ (n i : Nat) (x : Bool), i + n = v.length → ∃ x', alibilaw21_FlowBest_l5 v top l x y (i : Int) = some x' ∧ (x' = true → x = true ∧ ∀ j : Int, (i : Int) ≤ j → sub (gi v j) top)
  | 0, i, x, h => by
    rw [alibilaw21_FlowBest_l5, if_neg (by simp only [decide_eq_true_eq]; omega)]
    exact ⟨x, rfl, fun hx => ⟨hx, fun j hj => by rw [gi_out (by omega)]; exact zero_sub _⟩⟩
  | n + 1, i, x, h => by
    have hi : iAdd (i : Int) 1 = ((i + 1 : Nat) : Int) := by rw [iAdd_eq (by omega) (by omega)]; omega
    rw [alibilaw21_FlowBest_l5, if_pos (decide_eq_true (by omega)), hi]
    cases x with
    | true =>
      rw [if_pos rfl, if_pos (decide_eq_true (by omega)), if_pos (decide_eq_true (by omega)), getD_gi (by omega)]
      obtain ⟨x', h1, h2⟩ := best_l5 v top l hv y n (i + 1) ((gi v (i : Int) &&& ~~~top) == 0#32) (by omega)
      refine ⟨x', h1, fun hx => ⟨rfl, fun j hj => ?_⟩⟩
      obtain ⟨h3, h4⟩ := h2 hx
      by_cases hj2 : j = (i : Int)
      · subst hj2
        exact (sub_iff _ _).2 (by simpa using h3)
      · exact h4 j (by omega)
    | false =>
      rw [if_neg (by decide)]
      obtain ⟨x', h1, h2⟩ := best_l5 v top l hv y n (i + 1) false (by omega)
      exact ⟨x', h1, fun hx => absurd (h2 hx).1 (by decide)⟩
/-- A rule holds from above; from below. -/
def Ab (v : List W32) (r : flow_Rule) : Prop := 0 ≤ r.to_ → r.to_ < (v.length : Int) → sub (gi v r.to_) (rval r v)
def Be (v : List W32) (r : flow_Rule) : Prop := 0 ≤ r.to_ → r.to_ < (v.length : Int) → sub (rval r v) (gi v r.to_)
theorem best_l10 (v : List W32) (top : W32) (l : List flow_Rule) (hl : l.length ≤ 65536) : ∀ (n i : Nat) (t : List flow_Rule) (x y : Bool), i + n = l.length → t.length = i → ∃ t' x' y', alibilaw21_FlowBest_l10 t v top l x y (i : Int) = some (t', x', y') ∧ (∀ r, r ∈ t' ↔ r ∈ t ∨ r ∈ l.drop i) ∧ t'.length = l.length ∧
    (x' = true → x = true ∧ ∀ r ∈ l.drop i, Ab v r) ∧ (y' = true → y = true ∧ ∀ r ∈ l.drop i, Be v r)
  | 0, i, t, x, y, h, ht => by
    rw [alibilaw21_FlowBest_l10, if_neg (by simp only [decide_eq_true_eq]; omega), List.drop_eq_nil_of_le (by omega)]
    exact ⟨t, x, y, rfl, fun r => by simp, by omega, fun hx => ⟨hx, fun r hr => by cases hr⟩, fun hx => ⟨hx, fun r hr => by cases hr⟩⟩
  | n + 1, i, t, x, y, h, ht => by
    have hi : iAdd (i : Int) 1 = ((i + 1 : Nat) : Int) := by rw [iAdd_eq (by omega) (by omega)]; omega
    have hlt : i < l.length := by omega
    have e : List.getD l (Int.toNat (i : Int)) d_flow_Rule = l[i] := by simp [List.getD, hlt]
    have hd : l.drop i = l[i] :: l.drop (i + 1) := List.drop_eq_getElem_cons hlt
    rw [alibilaw21_FlowBest_l10, if_pos (decide_eq_true (by omega)), if_pos (decide_eq_true (by omega)), if_pos (decide_eq_true (by omega)), e, hi, if_pos (Nat.ble_eq_true_of_le (by simp only [List.length_singleton, reach]; omega)), hd]
    have ih := fun x y => best_l10 v top l hl n (i + 1) ([l[i]] ++ t) x y (by omega) (by simp [ht])
    generalize l[i] = r0 at ih
    have fin : ∀ x1 y1, (x1 = true → x = true ∧ Ab v r0) → (y1 = true → y = true ∧ Be v r0) → ∃ t' x' y', alibilaw21_FlowBest_l10 ([r0] ++ t) v top l x1 y1 ((i + 1 : Nat) : Int) = some (t', x', y') ∧ (∀ r, r ∈ t' ↔ r ∈ t ∨ r ∈ r0 :: l.drop (i + 1)) ∧ t'.length = l.length ∧
        (x' = true → x = true ∧ ∀ r ∈ r0 :: l.drop (i + 1), Ab v r) ∧ (y' = true → y = true ∧ ∀ r ∈ r0 :: l.drop (i + 1), Be v r) := by
      intro x1 y1 hx hy
      obtain ⟨t', x', y', q1, q2, q3, q4, q5⟩ := ih x1 y1
      refine ⟨t', x', y', q1, fun r => ?_, q3, fun h' => ?_, fun h' => ?_⟩
      · rw [q2]
        simp only [List.singleton_append, List.mem_cons]
        constructor
        · rintro ((h | h) | h)
          · exact .inr (.inl h)
          · exact .inl h
          · exact .inr (.inr h)
        · rintro (h | h | h)
          · exact .inl (.inr h)
          · exact .inl (.inl h)
          · exact .inr h
      · obtain ⟨h1, h2⟩ := q4 h'
        obtain ⟨h3, h4⟩ := hx h1
        exact ⟨h3, fun r hr => by rcases List.mem_cons.1 hr with rfl | hr; exact h4; exact h2 r hr⟩
      · obtain ⟨h1, h2⟩ := q5 h'
        obtain ⟨h3, h4⟩ := hy h1
        exact ⟨h3, fun r hr => by rcases List.mem_cons.1 hr with rfl | hr; exact h4; exact h2 r hr⟩
    by_cases c0 : r0.to_ < 0
    · rw [if_pos (decide_eq_true c0)]
      exact fin x y (fun hx => ⟨hx, fun _ _ => by omega⟩) (fun hy => ⟨hy, fun _ _ => by omega⟩)
    · rw [if_neg (by simpa using c0)]
      by_cases c1 : r0.to_ ≥ (v.length : Int)
      · rw [if_pos (decide_eq_true c1)]
        exact fin x y (fun hx => ⟨hx, fun _ _ => by omega⟩) (fun hy => ⟨hy, fun _ _ => by omega⟩)
      · rw [if_neg (by simpa using c1)]
        have g0 : 0 ≤ r0.to_ := by omega
        have g1 : r0.to_ < (v.length : Int) := by omega
        have hA : ((gi v r0.to_ &&& ~~~(rval r0 v)) == 0#32) = true → Ab v r0 := fun h _ _ => (sub_iff _ _).2 (by simpa using h)
        have hB : ((rval r0 v &&& ~~~(gi v r0.to_)) == 0#32) = true → Be v r0 := fun h _ _ => (sub_iff _ _).2 (by simpa using h)
        by_cases hx : x = true
        · rw [if_pos hx, if_pos (decide_eq_true g0), if_pos (decide_eq_true g1), value_eq, getD_gi' g0 g1]
          simp only [bind, Option.bind_some]
          by_cases hy : y = true
          · rw [if_pos hy]
            exact fin _ _ (fun h => ⟨hx, hA h⟩) (fun h => ⟨hy, hB h⟩)
          · rw [if_neg hy]
            exact fin _ _ (fun h => ⟨hx, hA h⟩) (fun h => by cases h)
        · rw [if_neg hx]
          by_cases hy : y = true
          · rw [if_pos hy, value_eq]
            simp only [bind, Option.bind_some]
            rw [if_pos (decide_eq_true g0), if_pos (decide_eq_true g1), getD_gi' g0 g1]
            exact fin _ _ (fun h => by cases h) (fun h => ⟨hy, hB h⟩)
          · rw [if_neg hy]
            exact fin _ _ (fun h => by cases h) (fun h => by cases h)
theorem best_l19 (t : List flow_Rule) (up down v : List W32) (top : W32) (x y : Bool) (hv : v.length ≤ 65536) (h1 : up.length = v.length) (h2 : down.length = v.length) (hx : x = true → ∀ j, sub (gi v j) (gi up j)) (hy : y = true → ∀ j, sub (gi down j) (gi v j)) : ∀ (n i : Nat), i + n = v.length → alibilaw21_FlowBest_l19 t up down v top x y (i : Int) = some .x1
  | 0, i, h => by rw [alibilaw21_FlowBest_l19, if_neg (by simp only [decide_eq_true_eq]; omega)]
  | n + 1, i, h => by
    have hi : iAdd (i : Int) 1 = ((i + 1 : Nat) : Int) := by rw [iAdd_eq (by omega) (by omega)]; omega
    have ih := best_l19 t up down v top x y hv h1 h2 hx hy n (i + 1) (by omega)
    rw [alibilaw21_FlowBest_l19, if_pos (decide_eq_true (by omega)), if_neg (by simp only [decide_eq_true_eq]; omega), if_neg (by simp only [decide_eq_true_eq]; omega), hi, ih]
    cases x with
    | true =>
      rw [if_pos rfl, if_pos (decide_eq_true (by omega)), if_pos (decide_eq_true (by omega)), if_pos (decide_eq_true (by omega)), getD_gi (by omega), getD_gi (by omega), if_neg (cond_sub (hx rfl _))]
      cases y with
      | true => rw [if_pos rfl, if_pos (decide_eq_true (by omega)), getD_gi (by omega), if_neg (cond_sub (hy rfl _))]
      | false => rw [if_neg (by decide)]
    | false =>
      rw [if_neg (by decide)]
      cases y with
      | true => rw [if_pos rfl, if_pos (decide_eq_true (by omega)), if_pos (decide_eq_true (by omega)), if_pos (decide_eq_true (by omega)), getD_gi (by omega), getD_gi (by omega), if_neg (cond_sub (hy rfl _))]
      | false => rw [if_neg (by decide)]
theorem Gfp.turn {l l' : List flow_Rule} (h : ∀ r, r ∈ l' ↔ r ∈ l) {v v' : List W32} (hg : Gfp l v v') : Gfp l' v v' :=
  ⟨hg.len, hg.sub, fun w hw => hg.best w fun r hr => hw r ((h r).2 hr), fun r hr => hg.keeps r ((h r).1 hr)⟩
theorem Dual.Lfp.turn {l l' : List flow_Rule} (h : ∀ r, r ∈ l' ↔ r ∈ l) {v v' : List W32} (hg : Dual.Lfp l v v') : Dual.Lfp l' v v' :=
  ⟨hg.len, hg.sub, fun w hw => hg.best w fun r hr => hw r ((h r).2 hr), fun r hr => hg.keeps r ((h r).1 hr)⟩
theorem flowBest (v : List W32) (top : W32) (l : List flow_Rule) : alibilaw21_FlowBest v top l = some true := by
  unfold alibilaw21_FlowBest
  rw [awake_ok]
  simp only [bind, Option.bind_some, Bool.not_true, Bool.false_eq_true, if_false]
  by_cases hv : ((v.length : Nat) : Int) > 60
  · rw [if_pos (decide_eq_true hv)]
  rw [if_neg (by simpa using hv)]
  by_cases hl : ((l.length : Nat) : Int) > 60
  · rw [if_pos (decide_eq_true hl)]
  rw [if_neg (by simpa using hl)]
  obtain ⟨x1, p1, p2⟩ := best_l5 v top l (by omega) true v.length 0 true (by omega)
  obtain ⟨t, x2, y2, q1, q2, q3, q4, q5⟩ := best_l10 v top l (by omega) l.length 0 [] x1 true (by omega) rfl
  rw [show ((0 : Nat) : Int) = 0 from rfl] at p1 q1
  rw [p1]
  simp only [Option.bind_some]
  rw [q1]
  simp only [Option.bind_some]
  obtain ⟨a, a1, a2⟩ := greatest_eq (v.length : Int) top l (by omega)
  obtain ⟨c, c1, c2⟩ := Dual.least_eq (v.length : Int) l (by omega)
  obtain ⟨a', a1', a2'⟩ := greatest_eq (v.length : Int) top t (by omega)
  obtain ⟨c', c1', c2'⟩ := Dual.least_eq (v.length : Int) t (by omega)
  rw [base_nat v.length (by omega)] at a2 c2 a2' c2'
  have hmem : ∀ r, r ∈ l ↔ r ∈ t := fun r => by rw [q2]; simp
  have e1 : a' = a := (a2'.turn hmem).unique a2
  have e2 : c' = c := (c2'.turn hmem).unique c2
  subst e1 e2
  have la : a'.length = v.length := by simpa using a2.len
  have lc : c'.length = v.length := by simpa using c2.len
  rw [a1]
  simp only [Option.bind_some]
  rw [c1]
  simp only [Option.bind_some]
  have q := best_l19 t a' c' v top x2 y2 (by omega) la lc (fun hx => by
    obtain ⟨h1, h2⟩ := q4 hx
    obtain ⟨_, h3⟩ := p2 h1
    refine a2.best v (fun r hr g0 g1 => h2 r (by simpa using hr) g0 (by simpa using g1)) fun j => ?_
    by_cases hj : 0 ≤ j ∧ j < v.length
    · rw [gi_rep' _ _ hj.1 hj.2]; exact h3 j (by omega)
    · rw [gi_out hj]; exact zero_sub _) (fun hy => by
    obtain ⟨h1, h2⟩ := q5 hy
    refine c2.best v (fun r hr g0 g1 => h2 r (by simpa using hr) g0 (by simpa using g1)) fun j => ?_
    rw [gi_zero]; exact sub_zero _) v.length 0 (by omega)
  rw [show ((0 : Nat) : Int) = 0 from rfl] at q
  rw [q]
  simp only [Option.bind_some]
  rw [a1']
  simp only [Option.bind_some]
  rw [same_eq a' (by omega)]
  simp only [Option.bind_some, if_true]
  rw [c1']
  simp only [Option.bind_some]
  rw [same_eq c' (by omega)]
  rfl
/-! ### more rules -/
theorem more_l8 (up down lower higher : List W32) (top : W32) (l : List flow_Rule) (k : Nat) (hk : k ≤ 65536) (h1 : up.length = k) (h2 : down.length = k) (h3 : lower.length = k) (h4 : higher.length = k) (hx : ∀ j, sub (gi lower j) (gi up j)) (hy : ∀ j, sub (gi down j) (gi higher j)) : ∀ (n i : Nat), i + n = k → alibilaw21_FlowMore_l8 up down lower higher top l (k : Int) (i : Int) = some .x1
  | 0, i, h => by rw [alibilaw21_FlowMore_l8, if_neg (by simp only [decide_eq_true_eq]; omega)]
  | n + 1, i, h => by
    have hi : iAdd (i : Int) 1 = ((i + 1 : Nat) : Int) := by rw [iAdd_eq (by omega) (by omega)]; omega
    have ih := more_l8 up down lower higher top l k hk h1 h2 h3 h4 hx hy n (i + 1) (by omega)
    rw [alibilaw21_FlowMore_l8, if_pos (decide_eq_true (by omega)), if_neg (by simp only [decide_eq_true_eq]; omega), if_neg (by simp only [decide_eq_true_eq]; omega), if_neg (by simp only [decide_eq_true_eq]; omega), if_neg (by simp only [decide_eq_true_eq]; omega), hi, ih]
    rw [if_pos (decide_eq_true (by omega)), if_pos (decide_eq_true (by omega)), if_pos (decide_eq_true (by omega)), getD_gi (by omega), getD_gi (by omega), if_neg (cond_sub (hx _)), if_pos (decide_eq_true (by omega)), if_pos (decide_eq_true (by omega)), getD_gi (by omega), getD_gi (by omega), if_neg (cond_sub (hy _))]
theorem flowMore (n1 : BitVec 8) (top : W32) (l more : List flow_Rule) : alibilaw21_FlowMore n1 top l more = some true := by
  unfold alibilaw21_FlowMore
  rw [awake_ok]
  simp only [bind, Option.bind_some, Bool.not_true, Bool.false_eq_true, if_false]
  by_cases hl : ((l.length : Nat) : Int) > 60
  · rw [if_pos (decide_eq_true hl)]
  rw [if_neg (by simpa using hl)]
  by_cases hm : ((more.length : Nat) : Int) > 60
  · rw [if_pos (decide_eq_true hm)]
  rw [if_neg (by simpa using hm)]
  simp only [List.nil_append]
  rw [if_pos (Nat.ble_eq_true_of_le (by simp only [List.length_nil, reach]; omega)), if_pos (Nat.ble_eq_true_of_le (by simp only [reach]; omega)), rem60]
  have hk : n1.toNat % 60 < 60 := Nat.mod_lt _ (by decide)
  generalize n1.toNat % 60 = k at hk
  obtain ⟨a, a1, a2⟩ := greatest_eq (k : Int) top l (by omega)
  obtain ⟨c, c1, c2⟩ := Dual.least_eq (k : Int) l (by omega)
  obtain ⟨b, b1, b2⟩ := greatest_eq (k : Int) top (l ++ more) (by simp; omega)
  obtain ⟨d, d1, d2⟩ := Dual.least_eq (k : Int) (l ++ more) (by simp; omega)
  obtain ⟨a', a1', a2'⟩ := greatest_eq (k : Int) top (l ++ l) (by simp; omega)
  obtain ⟨c', c1', c2'⟩ := Dual.least_eq (k : Int) (l ++ l) (by simp; omega)
  rw [base_nat k (by omega)] at a2 c2 a2' c2' b2 d2
  have e1 : a' = a := (a2'.turn fun r => by simp).unique a2
  have e2 : c' = c := (c2'.turn fun r => by simp).unique c2
  subst e1 e2
  have la : a'.length = k := by simpa using a2.len
  have lc : c'.length = k := by simpa using c2.len
  have lb : b.length = k := by simpa using b2.len
  have ld : d.length = k := by simpa using d2.len
  rw [a1]
  simp only [Option.bind_some]
  rw [c1]
  simp only [Option.bind_some]
  rw [b1]
  simp only [Option.bind_some]
  rw [d1]
  simp only [Option.bind_some]
  have q := more_l8 a' c' b d top l k (by omega) la lc lb ld (a2.best b (fun r hr => b2.keeps r (List.mem_append_left _ hr)) b2.sub) (c2.best d (fun r hr => d2.keeps r (List.mem_append_left _ hr)) d2.sub) k 0 (by omega)
  rw [show ((0 : Nat) : Int) = 0 from rfl] at q
  rw [q]
  simp only [Option.bind_some]
  rw [if_pos (Nat.ble_eq_true_of_le (by simp only [reach]; omega)), a1']
  simp only [Option.bind_some]
  rw [same_eq a' (by omega)]
  simp only [Option.bind_some, if_true]
  rw [c1']
  simp only [Option.bind_some]
  rw [same_eq c' (by omega)]
  rfl
end Go.Bm.GoYtldkmmnffjdliaa
