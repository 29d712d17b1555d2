/- The same from below: the least sets. This text is LawFlow4 to LawFlow8 with the order turned. -/
import Derived.Test.YtldkmmnffjdliaaLawFlow8
namespace Go.Bm.GoYtldkmmnffjdliaa
namespace Dual
set_option autoImplicit false
set_option linter.unusedVariables false
set_option linter.unusedSimpArgs false
/-- b is within a. -/
def sub (a b : W32) : Prop := GoYtldkmmnffjdliaa.sub b a
theorem sub.refl (a : W32) : sub a a := GoYtldkmmnffjdliaa.sub.refl a
theorem sub.trans {a b c : W32} (h : sub a b) (k : sub b c) : sub a c := GoYtldkmmnffjdliaa.sub.trans k h
theorem sub.antisymm {a b : W32} (h : sub a b) (k : sub b a) : a = b := GoYtldkmmnffjdliaa.sub.antisymm k h
theorem and_sub_l (a b : W32) : sub (a ||| b) a := sub_or_l a b
theorem and_sub_r (a b : W32) : sub (a ||| b) b := sub_or_r a b
theorem sub_and {a b c : W32} (h : sub c a) (k : sub c b) : sub c (a ||| b) := or_sub h k
theorem rval_mono (r : flow_Rule) {v w : List W32} (h : ∀ j : Int, sub (gi v j) (gi w j)) : sub (rval r v) (rval r w) := GoYtldkmmnffjdliaa.rval_mono r h
/-- How many bits a set lacks. -/
def pop (a : W32) : Nat := ((List.range 32).filter fun i => !a.getLsbD i).length
theorem pop_le {a b : W32} (h : sub a b) : pop a ≤ pop b := filter_le _ fun i hi => by
  cases hb : b.getLsbD i with
  | false => rfl
  | true => have := h i hb; simp [this] at hi
theorem pop_lt {a b : W32} (h : sub a b) (hn : a ≠ b) : pop a < pop b := by
  have : ∃ i, i < 32 ∧ b.getLsbD i = false ∧ a.getLsbD i = true := by
    apply Classical.byContradiction
    intro hno
    apply hn
    apply BitVec.eq_of_getLsbD_eq
    intro i hi
    cases hb : b.getLsbD i with
    | true => rw [h i hb]
    | false =>
      cases ha : a.getLsbD i with
      | false => rfl
      | true => exact absurd ⟨i, hi, hb, ha⟩ hno
  obtain ⟨i, hi, h1, h2⟩ := this
  refine filter_lt _ (fun k hk => ?_) (List.mem_range.2 hi) (by simp [h2]) (by simp [h1])
  cases hb : b.getLsbD k with
  | false => rfl
  | true => have := h k hb; simp [this] at hk
theorem apply_eq (v : List W32) (u : List (List Int)) (b0 : List flow_Rule) (r : flow_Rule) (h0 : 0 ≤ r.to_) (h1 : r.to_ < v.length) :
    flow_solver_apply_1 v u b0 r = some ((gi v r.to_ ||| rval r v) != gi v r.to_, v.set r.to_.toNat (gi v r.to_ ||| rval r v)) := by
  unfold flow_solver_apply_1 flow_join
  rw [if_pos (decide_eq_true h0), if_pos (decide_eq_true h1), value_eq]
  simp only [bind, Option.bind_some]
  have e : List.getD v r.to_.toNat 0#32 = gi v r.to_ := by unfold gi; rw [if_pos ⟨h0, h1⟩]
  rw [e]
  have e2 : ∀ x : W32, List.getD (List.set v r.to_.toNat x) r.to_.toNat 0#32 = x := fun x => by
    have : r.to_.toNat < v.length := by omega
    simp [List.getD, this]
  rw [e2]
theorem l9_eq (v : List W32) (x1 : List (List Int)) (x3 : List Int) (x4 : List Bool) (rs : List flow_Rule) (js : List Int) (x7 : List flow_Rule) (x8 x9 x10 : Int) (x11 x12 x13 : W32) (x14 : List flow_Rule) (x15 x16 : Int) (hjs : js.length ≤ 2) :
    ∀ (n i : Nat) (u : List (List Int)), i + n = js.length → u.length = v.length → (∀ j : Nat, (u.getD j []).length + n ≤ 1000000) →
    flow_solver_solve_1_l9 v x1 u x3 x4 rs js x7 x8 x9 x10 x11 x12 x13 x14 x15 x16 (js.length : Int) (i : Int) = some ((js.drop i).foldl (fun u j => use1 v.length u j (rs.length : Int)) u)
  | 0, i, u, h, hu, hb => by
    rw [flow_solver_solve_1_l9, if_neg (by simp only [decide_eq_true_eq]; omega), List.drop_eq_nil_of_le (by omega)]
    rfl
  | n + 1, i, u, h, hu, hb => by
    have hi : iAdd (i : Int) 1 = ((i + 1 : Nat) : Int) := by rw [iAdd_eq (by omega) (by omega)]; omega
    have hlt : i < js.length := by omega
    rw [flow_solver_solve_1_l9, if_pos (decide_eq_true (by omega)), if_pos (decide_eq_true (by omega)), if_pos (decide_eq_true (by omega)), hi]
    have e : List.getD js (Int.toNat (i : Int)) 0 = js[i] := by simp [List.getD, hlt]
    rw [e, List.drop_eq_getElem_cons hlt, List.foldl_cons]
    generalize js[i] = j
    have ih := fun u' hu' hb' => l9_eq v x1 x3 x4 rs js x7 x8 x9 x10 x11 x12 x13 x14 x15 x16 hjs n (i + 1) u' (by omega) hu' hb'
    by_cases h0 : j ≥ 0
    · rw [if_pos (decide_eq_true h0)]
      by_cases h1 : j < (v.length : Int)
      · rw [if_pos (decide_eq_true h1), if_pos (decide_eq_true h0), if_pos (decide_eq_true (by rw [hu]; exact h1))]
        rw [if_pos (Nat.ble_eq_true_of_le (by have := hb j.toNat; simp only [List.length_singleton, reach]; omega))]
        have e1 : use1 v.length u j (rs.length : Int) = u.set j.toNat (u.getD j.toNat [] ++ [(rs.length : Int)]) := if_pos ⟨h0, h1⟩
        rw [e1]
        refine ih _ (by simp [hu]) fun k => ?_
        have hk := hb k
        by_cases hkj : j.toNat = k
        · subst hkj
          have : j.toNat < u.length := by omega
          simp [List.getD, this] at hk ⊢
          omega
        · have : (u.set j.toNat (u.getD j.toNat [] ++ [(rs.length : Int)])).getD k [] = u.getD k [] := by simp [List.getD, List.getElem?_set, hkj]
          rw [this]; omega
      · rw [if_neg (by simpa using h1)]
        have e1 : use1 v.length u j (rs.length : Int) = u := if_neg (by omega)
        rw [e1]
        exact ih u hu fun k => by have := hb k; omega
    · rw [if_neg (by simpa using h0)]
      have e1 : use1 v.length u j (rs.length : Int) = u := if_neg (by omega)
      rw [e1]
      exact ih u hu fun k => by have := hb k; omega
theorem pop_32 (a : W32) : pop a ≤ 32 := Nat.le_trans (List.length_filter_le _ _) (by simp)
def pops (v : List W32) : Nat := (v.map pop).sum
theorem pops_set : ∀ (v : List W32) (i : Nat) (x : W32) (h : i < v.length), pops (v.set i x) + pop v[i] = pops v + pop x
  | a :: v, 0, x, h => by simp [pops]; omega
  | a :: v, i + 1, x, h => by
    have := pops_set v i x (by simpa using h)
    simp [pops] at this ⊢
    omega
theorem pops_le : ∀ v : List W32, pops v ≤ 32 * v.length
  | [] => by simp [pops]
  | a :: v => by
    have h1 := pops_le v
    have h2 := pop_32 a
    simp [pops] at h1 ⊢
    omega
/-- Sets that keep the rules from above. -/
def Keeps (l : List flow_Rule) (n : Nat) (w : List W32) : Prop := ∀ r ∈ l, 0 ≤ r.to_ → r.to_ < (n : Int) → sub (gi w r.to_) (rval r w)
/-- One set less: what is so of the sets then. -/
theorem cut_one {l : List flow_Rule} {v : List W32} {r : flow_Rule} {x : W32} (hr : r ∈ l) (h0 : 0 ≤ r.to_) (h1 : r.to_ < v.length) (hx : x = rval r v ||| gi v r.to_) :
    (∀ j, sub (gi (v.set r.to_.toNat x) j) (gi v j)) ∧ (∀ w, Keeps l v.length w → (∀ j, sub (gi w j) (gi v j)) → ∀ j, sub (gi w j) (gi (v.set r.to_.toNat x) j)) ∧ (x ≠ gi v r.to_ → pops (v.set r.to_.toNat x) < pops v) := by
  have hlt : r.to_.toNat < v.length := by omega
  have hcast : ((r.to_.toNat : Nat) : Int) = r.to_ := by omega
  have hg : ∀ j, gi (v.set r.to_.toNat x) j = if j = r.to_ then x else gi v j := fun j => by rw [gi_set v _ x hlt j, hcast]
  have hsub : sub x (gi v r.to_) := by rw [hx]; exact and_sub_r _ _
  refine ⟨fun j => ?_, fun w hw hwv j => ?_, fun hne => ?_⟩
  · rw [hg]
    split
    · rename_i e; rw [e]; exact hsub
    · exact sub.refl _
  · rw [hg]
    split
    · rename_i e
      rw [e, hx]
      exact sub_and (sub.trans (hw r hr h0 h1) (rval_mono r hwv)) (hwv _)
    · exact hwv j
  · have h2 := pops_set v r.to_.toNat x hlt
    have h3 : v[r.to_.toNat] = gi v r.to_ := gi_get h0 h1
    have h4 := pop_lt hsub hne
    rw [h3] at h2
    omega
theorem round_up (l : List flow_Rule) (hl : l.length ≤ 65536) (n : Nat) : ∀ (m i : Nat) (v : List W32) (ag : Bool), i + m = l.length → v.length = n → v.length ≤ 65536 →
    ∃ v' ag', alibiref21_Solve_l12 v (n : Int) l false ag (i : Int) = some (v', ag') ∧ v'.length = v.length ∧ (∀ j, sub (gi v' j) (gi v j)) ∧ (∀ w, Keeps l n w → (∀ j, sub (gi w j) (gi v j)) → ∀ j, sub (gi w j) (gi v' j)) ∧ pops v' ≤ pops v ∧
      (ag' = false → ag = false ∧ v' = v ∧ ∀ r ∈ l.drop i, 0 ≤ r.to_ → r.to_ < (n : Int) → sub (gi v r.to_) (rval r v)) ∧ (ag = false → ag' = true → pops v' < pops v)
  | 0, i, v, ag, h, hv, hv' => by
    rw [alibiref21_Solve_l12, if_neg (by simp only [decide_eq_true_eq]; omega)]
    refine ⟨v, ag, rfl, rfl, fun j => sub.refl _, fun w _ hw => hw, Nat.le_refl _, fun h0 => ⟨h0, rfl, fun r hr => ?_⟩, fun h1 h2 => by rw [h1] at h2; cases h2⟩
    rw [List.drop_eq_nil_of_le (by omega)] at hr
    cases hr
  | m + 1, i, v, ag, h, hv, hv' => by
    have hi : iAdd (i : Int) 1 = ((i + 1 : Nat) : Int) := by rw [iAdd_eq (by omega) (by omega)]; omega
    have hlt : i < l.length := by omega
    rw [alibiref21_Solve_l12, if_pos (decide_eq_true (by omega)), if_pos (decide_eq_true (by omega)), if_pos (decide_eq_true (by omega)), hi]
    have e : List.getD l (Int.toNat (i : Int)) d_flow_Rule = l[i] := by simp [List.getD, hlt]
    rw [e]
    have hmem : l[i] ∈ l := List.getElem_mem hlt
    have hdrop : l.drop i = l[i] :: l.drop (i + 1) := List.drop_eq_getElem_cons hlt
    rw [hdrop]
    generalize l[i] = r at hmem
    by_cases h0 : r.to_ < 0
    · rw [if_pos (decide_eq_true h0)]
      obtain ⟨v', ag', q1, q2, q3, q4, q5, q6, q7⟩ := round_up l hl n m (i + 1) v ag (by omega) hv hv'
      refine ⟨v', ag', q1, q2, q3, q4, q5, fun hh => ⟨(q6 hh).1, (q6 hh).2.1, fun s hs a1 a2 => ?_⟩, q7⟩
      rcases List.mem_cons.1 hs with rfl | hs
      · omega
      · exact (q6 hh).2.2 s hs a1 a2
    · rw [if_neg (by simpa using h0)]
      by_cases h1 : r.to_ ≥ (n : Int)
      · rw [if_pos (decide_eq_true h1)]
        obtain ⟨v', ag', q1, q2, q3, q4, q5, q6, q7⟩ := round_up l hl n m (i + 1) v ag (by omega) hv hv'
        refine ⟨v', ag', q1, q2, q3, q4, q5, fun hh => ⟨(q6 hh).1, (q6 hh).2.1, fun s hs a1 a2 => ?_⟩, q7⟩
        rcases List.mem_cons.1 hs with rfl | hs
        · omega
        · exact (q6 hh).2.2 s hs a1 a2
      · rw [if_neg (by simpa using h1), refValue_eq r v hv']
        simp only [bind, Option.bind_some, Bool.false_eq_true, if_false]
        have g0 : (0 : Int) ≤ r.to_ := by omega
        have g1 : r.to_ < (v.length : Int) := by omega
        rw [if_pos (decide_eq_true g0), if_pos (decide_eq_true g1)]
        have eg : List.getD v r.to_.toNat 0#32 = gi v r.to_ := by unfold gi; rw [if_pos ⟨g0, g1⟩]
        rw [eg]
        obtain ⟨c1, c2, c3⟩ := cut_one (l := l) (x := rval r v ||| gi v r.to_) hmem g0 g1 rfl
        by_cases hne : (rval r v ||| gi v r.to_) = gi v r.to_
        · rw [if_neg (by simpa using hne)]
          obtain ⟨v', ag', q1, q2, q3, q4, q5, q6, q7⟩ := round_up l hl n m (i + 1) v ag (by omega) hv hv'
          refine ⟨v', ag', q1, q2, q3, q4, q5, fun hh => ⟨(q6 hh).1, (q6 hh).2.1, fun s hs a1 a2 => ?_⟩, q7⟩
          rcases List.mem_cons.1 hs with rfl | hs
          · rw [← hne]; exact and_sub_l _ _
          · exact (q6 hh).2.2 s hs a1 a2
        · rw [if_pos (by simpa using hne)]
          obtain ⟨v', ag', q1, q2, q3, q4, q5, q6, q7⟩ := round_up l hl n m (i + 1) (v.set r.to_.toNat (rval r v ||| gi v r.to_)) true (by omega) (by simp [hv]) (by simpa using hv')
          have hlt' := c3 hne
          refine ⟨v', ag', q1, by rw [q2]; simp, fun j => (q3 j).trans (c1 j), fun w hw hwv => q4 w hw (c2 w (hv ▸ hw) hwv), by omega, fun hh => ?_, fun _ _ => by omega⟩
          have := (q6 hh).1
          cases this
/-- The least sets that keep the rules, beyond some. -/
structure Lfp (l : List flow_Rule) (v v' : List W32) : Prop where
  len : v'.length = v.length
  sub : ∀ j, sub (gi v' j) (gi v j)
  best : ∀ w, Keeps l v.length w → (∀ j, Dual.sub (gi w j) (gi v j)) → ∀ j, Dual.sub (gi w j) (gi v' j)
  keeps : Keeps l v.length v'
theorem rounds_up (l : List flow_Rule) (hl : l.length ≤ 65536) : ∀ (m : Nat) (v : List W32), pops v ≤ m → v.length ≤ 65536 → ∃ v', alibiref21_Solve_l9 v (v.length : Int) l false true = some v' ∧ Lfp l v v'
  | m, v, hm, hv => by
    rw [alibiref21_Solve_l9, if_pos rfl]
    obtain ⟨v1, ag, q1, q2, q3, q4, q5, q6, q7⟩ := round_up l hl v.length l.length 0 v false (by omega) rfl hv
    rw [show ((0 : Nat) : Int) = 0 from rfl] at q1
    rw [q1]
    simp only [bind, Option.bind_some]
    cases ag with
    | false =>
      rw [alibiref21_Solve_l9, if_neg (by simp)]
      obtain ⟨_, rfl, h3⟩ := q6 rfl
      exact ⟨v1, rfl, rfl, q3, fun w hw hwv => hwv, fun r hr a1 a2 => h3 r (by simpa using hr) a1 a2⟩
    | true =>
      have hlt := q7 rfl rfl
      match m, hm with
      | 0, hm => omega
      | m + 1, hm =>
        obtain ⟨v', h1, h2⟩ := rounds_up l hl m v1 (by omega) (by omega)
        rw [q2] at h1
        have hk := h2.keeps
        rw [q2] at hk
        exact ⟨v', h1, h2.len.trans q2, fun j => (h2.sub j).trans (q3 j), fun w hw hwv => h2.best w (by rw [q2]; exact hw) (q4 w hw hwv), hk⟩
theorem Lfp.unique {l : List flow_Rule} {v a b : List W32} (ha : Lfp l v a) (hb : Lfp l v b) : a = b :=
  ext_gi (ha.len.trans hb.len.symm) fun j => (hb.best a ha.keeps ha.sub j).antisymm (ha.best b hb.keeps hb.sub j)
/-- A rule holds. -/
def Holds (v : List W32) (r : flow_Rule) : Prop := sub (gi v r.to_) (rval r v)
theorem holds_after {v : List W32} {t : Int} {x : W32} (h0 : 0 ≤ t) (h1 : t < v.length) (hx : sub x (gi v t)) {r : flow_Rule} (hr : Holds v r) (hf : r.from_ ≠ t) (ha : r.also ≠ t) : Holds (v.set t.toNat x) r := by
  have hlt : t.toNat < v.length := by omega
  have hcast : ((t.toNat : Nat) : Int) = t := by omega
  have hg : ∀ j, gi (v.set t.toNat x) j = if j = t then x else gi v j := fun j => by rw [gi_set v _ x hlt j, hcast]
  unfold Holds at hr ⊢
  rw [rval_congr (v := v.set t.toNat x) (w := v) (by rw [hg, if_neg hf]) (by rw [hg, if_neg ha]), hg]
  split
  · rename_i e; rw [e] at hr; exact hx.trans hr
  · exact hr
/-- A rule is done: it holds then, or waits; so does what held, or waited. -/
theorem done_step {v : List W32} {r0 : flow_Rule} {l l' : List Int} (h0 : 0 ≤ r0.to_) (h1 : r0.to_ < v.length) (hl : ∀ y, y ∈ l → y ∈ l') (ht : (gi v r0.to_ ||| rval r0 v) ≠ gi v r0.to_ → r0.to_ ∈ l') :
    (∀ r, Holds v r ∨ Waits l r → Holds (v.set r0.to_.toNat (gi v r0.to_ ||| rval r0 v)) r ∨ Waits l' r) ∧ (Holds (v.set r0.to_.toNat (gi v r0.to_ ||| rval r0 v)) r0 ∨ Waits l' r0) := by
  have hlt : r0.to_.toNat < v.length := by omega
  have hcast : ((r0.to_.toNat : Nat) : Int) = r0.to_ := by omega
  by_cases hc : (gi v r0.to_ ||| rval r0 v) = gi v r0.to_
  · have e : v.set r0.to_.toNat (gi v r0.to_ ||| rval r0 v) = v := by
      rw [hc]
      have := gi_get h0 h1
      rw [← this]
      simp
    rw [e]
    refine ⟨fun r hr => hr.imp id fun hw => hw.imp (hl _) (hl _), .inl ?_⟩
    show sub (gi v r0.to_) (rval r0 v)
    rw [← hc]
    exact and_sub_r _ _
  · have ht := ht hc
    have key : ∀ r, (r.from_ = r0.to_ ∨ r.also = r0.to_) → Waits l' r := fun r h => h.elim (fun e => .inl (e ▸ ht)) fun e => .inr (e ▸ ht)
    refine ⟨fun r hr => ?_, ?_⟩
    · by_cases hin : r.from_ = r0.to_ ∨ r.also = r0.to_
      · exact .inr (key r hin)
      · rcases hr with hr | hr
        · exact .inl (holds_after h0 h1 (and_sub_l _ _) hr (fun e => hin (.inl e)) fun e => hin (.inr e))
        · exact .inr (hr.imp (hl _) (hl _))
    · by_cases hin : r0.from_ = r0.to_ ∨ r0.also = r0.to_
      · exact .inr (key r0 hin)
      · refine .inl ?_
        have hg : ∀ j, gi (v.set r0.to_.toNat (gi v r0.to_ ||| rval r0 v)) j = if j = r0.to_ then (gi v r0.to_ ||| rval r0 v) else gi v j := fun j => by rw [gi_set v _ _ hlt j, hcast]
        show sub (gi _ r0.to_) (rval r0 _)
        rw [rval_congr (v := v.set r0.to_.toNat (gi v r0.to_ ||| rval r0 v)) (w := v) (by rw [hg, if_neg fun e => hin (.inl e)]) (by rw [hg, if_neg fun e => hin (.inr e)]), hg, if_pos rfl]
        exact and_sub_r _ _
theorem l25_eq (n : Nat) (hn : n ≤ 65536) (x1 : List (List Int)) (us : List (List Int)) (rs : List flow_Rule) (x6 : List flow_Rule) (i0 : Nat) (hrs : ∀ r ∈ rs, 0 ≤ r.to_ ∧ r.to_ < (n : Int)) (hus : ∀ k ∈ us.getD i0 [], ∃ q : Nat, k = (q : Int) ∧ q < rs.length) (hlen : (us.getD i0 []).length ≤ 1000000) :
    ∀ (m i : Nat) (v : List W32) (l : List Int) (tb : List Bool), i + m = (us.getD i0 []).length → v.length = n → WK n l tb →
    ∃ v' l' tb', flow_solver_solve_1_l25 v x1 us l tb rs x6 i0 (((us.getD i0 []).length : Nat) : Int) (i : Int) = some (v', l', tb') ∧ v'.length = n ∧ WK n l' tb' ∧ (∀ j, sub (gi v' j) (gi v j)) ∧ (∀ w, Keeps rs n w → (∀ j, sub (gi w j) (gi v j)) → ∀ j, sub (gi w j) (gi v' j)) ∧
      2 * pops v' + l'.length ≤ 2 * pops v + l.length ∧ (∀ r, Holds v r ∨ Waits l r → Holds v' r ∨ Waits l' r) ∧ (∀ (q : Nat) (r : flow_Rule), rs[q]? = some r → (q : Int) ∈ (us.getD i0 []).drop i → Holds v' r ∨ Waits l' r)
  | 0, i, v, l, tb, h, hv, hw => by
    rw [flow_solver_solve_1_l25, if_neg (by simp only [decide_eq_true_eq]; omega)]
    refine ⟨v, l, tb, rfl, hv, hw, fun j => sub.refl _, fun w _ hh => hh, Nat.le_refl _, fun r hr => hr, fun q r _ hq => ?_⟩
    rw [List.drop_eq_nil_of_le (by omega)] at hq
    cases hq
  | m + 1, i, v, l, tb, h, hv, hw => by
    have hi : iAdd (i : Int) 1 = ((i + 1 : Nat) : Int) := by rw [iAdd_eq (by omega) (by omega)]; omega
    have hlt : i < (us.getD i0 []).length := by omega
    rw [flow_solver_solve_1_l25, if_pos (decide_eq_true (by omega)), if_pos (decide_eq_true (by omega)), if_pos (decide_eq_true (by omega)), hi]
    have e : List.getD (us.getD i0 []) (Int.toNat (i : Int)) 0 = (us.getD i0 [])[i] := by
      rw [Int.toNat_natCast]
      exact (List.getD_eq_getElem?_getD ..).trans (by rw [List.getElem?_eq_getElem hlt]; rfl)
    obtain ⟨q, hq1, hq2⟩ := hus _ (List.getElem_mem hlt)
    have hdrop : (us.getD i0 []).drop i = (us.getD i0 [])[i] :: (us.getD i0 []).drop (i + 1) := List.drop_eq_getElem_cons hlt
    rw [hdrop, e, hq1, if_pos (decide_eq_true (by omega)), if_pos (decide_eq_true (by omega))]
    have er : List.getD rs (Int.toNat (q : Int)) d_flow_Rule = rs[q] := by simp [List.getD, hq2]
    rw [er]
    obtain ⟨r0, r1⟩ := hrs _ (List.getElem_mem hq2)
    have r1' : rs[q].to_ < (v.length : Int) := by rw [hv]; exact r1
    rw [apply_eq v us x6 rs[q] r0 r1']
    simp only [bind, Option.bind_some]
    have hx : rval rs[q] v ||| gi v rs[q].to_ = gi v rs[q].to_ ||| rval rs[q] v := BitVec.or_comm _ _
    obtain ⟨c1, c2, c3⟩ := cut_one (l := rs) (x := gi v rs[q].to_ ||| rval rs[q] v) (List.getElem_mem hq2) r0 r1' hx.symm
    have hlen2 : (v.set rs[q].to_.toNat (gi v rs[q].to_ ||| rval rs[q] v)).length = n := by simp [hv]
    have hrq : rs[q]? = some rs[q] := List.getElem?_eq_getElem hq2
    by_cases hc : (gi v rs[q].to_ ||| rval rs[q] v) = gi v rs[q].to_
    · rw [if_neg (by simpa using hc)]
      obtain ⟨d1, d2⟩ := done_step (l := l) (l' := l) r0 r1' (fun _ h => h) (fun hh => absurd hc hh)
      have hpe : v.set rs[q].to_.toNat (gi v rs[q].to_ ||| rval rs[q] v) = v := by
        rw [hc]
        have := gi_get r0 r1'
        rw [← this]; simp
      rw [hpe] at d1 d2 ⊢
      obtain ⟨v', l', tb', q1, q2, q3, q4, q5, q6, q7, q8⟩ := l25_eq n hn x1 us rs x6 i0 hrs hus hlen m (i + 1) v l tb (by omega) hv hw
      refine ⟨v', l', tb', q1, q2, q3, q4, q5, q6, q7, fun k r hk hm => ?_⟩
      rcases List.mem_cons.1 hm with hm | hm
      · have : k = q := by omega
        subst this
        rw [hrq] at hk
        cases hk
        exact q7 _ d2
      · exact q8 k r hk hm
    · rw [if_pos (by simpa using hc)]
      obtain ⟨l1, tb1, a1, a2, a3, a4⟩ := add_eq hn hw r0 r1
      rw [a1]
      simp only [Option.bind_some]
      obtain ⟨d1, d2⟩ := done_step (l := l) (l' := l1) r0 r1' (fun y hy => (a3 y).2 (.inl hy)) (fun _ => (a3 _).2 (.inr rfl))
      have hp := c3 hc
      obtain ⟨v', l', tb', q1, q2, q3, q4, q5, q6, q7, q8⟩ := l25_eq n hn x1 us rs x6 i0 hrs hus hlen m (i + 1) _ l1 tb1 (by omega) hlen2 a2
      refine ⟨v', l', tb', q1, q2, q3, fun j => (q4 j).trans (c1 j), fun w hk hwv => q5 w hk (c2 w (hv ▸ hk) hwv), by omega, fun r hr => q7 r (d1 r hr), fun k r hk hm => ?_⟩
      rcases List.mem_cons.1 hm with hm | hm
      · have : k = q := by omega
        subst this
        rw [hrq] at hk
        cases hk
        exact q7 _ d2
      · exact q8 k r hk hm
theorem l23_eq (n : Nat) (hn : n ≤ 65536) (x1 : List (List Int)) (us : List (List Int)) (rs : List flow_Rule) (x6 : List flow_Rule) (hrs : ∀ r ∈ rs, 0 ≤ r.to_ ∧ r.to_ < (n : Int)) (husl : us.length = n) (hus : ∀ i0 : Nat, ∀ k ∈ us.getD i0 [], ∃ q : Nat, k = (q : Int) ∧ q < rs.length) (hlen : ∀ i0 : Nat, (us.getD i0 []).length ≤ 1000000)
    (huse : ∀ (q : Nat) (r : flow_Rule) (j : Int), rs[q]? = some r → (r.from_ = j ∨ r.also = j) → 0 ≤ j → j < (n : Int) → (q : Int) ∈ us.getD j.toNat []) :
    ∀ (M : Nat) (v : List W32) (l : List Int) (tb : List Bool), 2 * pops v + l.length ≤ M → v.length = n → WK n l tb → (∀ r ∈ rs, Holds v r ∨ Waits l r) →
    ∃ v', flow_solver_solve_1_l23 v x1 us l tb rs x6 = some v' ∧ v'.length = n ∧ (∀ j, sub (gi v' j) (gi v j)) ∧ (∀ w, Keeps rs n w → (∀ j, sub (gi w j) (gi v j)) → ∀ j, sub (gi w j) (gi v' j)) ∧ ∀ r ∈ rs, Holds v' r
  | M, v, l, tb, hM, hv, hw, hall => by
    rw [flow_solver_solve_1_l23]
    unfold flow_todo_Len
    simp only [bind, Option.bind_some]
    by_cases h0 : 0 < l.length
    · rw [if_pos (decide_eq_true (by omega))]
      obtain ⟨i, l1, tb1, a1, a2, a3, a4, a5⟩ := next_eq hn hw h0
      have hir := hw.rng i a2
      rw [a1]
      simp only [Option.bind_some]
      rw [if_pos (decide_eq_true hir.1), if_pos (decide_eq_true (by rw [husl]; exact hir.2))]
      obtain ⟨v', l', tb', q1, q2, q3, q4, q5, q6, q7, q8⟩ := l25_eq n hn x1 us rs x6 i.toNat hrs (hus _) (hlen _) (us.getD i.toNat []).length 0 v l1 tb1 (Nat.zero_add _) hv a3
      rw [show ((0 : Nat) : Int) = 0 from rfl] at q1
      rw [q1]
      simp only [Option.bind_some]
      have hall' : ∀ r ∈ rs, Holds v' r ∨ Waits l' r := by
        intro r hr
        obtain ⟨q, hq⟩ := List.getElem?_of_mem hr
        by_cases hin : r.from_ = i ∨ r.also = i
        · exact q8 q r hq (by rw [List.drop_zero]; exact huse q r i hq hin hir.1 hir.2)
        · refine q7 r ((hall r hr).imp id fun hwt => ?_)
          rcases hwt with hwt | hwt
          · exact .inl ((a4 _).2 ⟨hwt, fun e => hin (.inl e)⟩)
          · exact .inr ((a4 _).2 ⟨hwt, fun e => hin (.inr e)⟩)
      match M, hM with
      | 0, hM => omega
      | M + 1, hM =>
        obtain ⟨v2, b1, b2, b3, b4, b5⟩ := l23_eq n hn x1 us rs x6 hrs husl hus hlen huse M v' l' tb' (by omega) q2 q3 hall'
        exact ⟨v2, b1, b2, fun j => (b3 j).trans (q4 j), fun w hk hwv => b4 w hk (q5 w hk hwv), b5⟩
    · rw [if_neg (by simp only [decide_eq_true_eq]; omega)]
      refine ⟨v, rfl, hv, fun j => sub.refl _, fun w _ hh => hh, fun r hr => (hall r hr).resolve_right fun hwt => ?_⟩
      have : l = [] := List.length_eq_zero_iff.1 (by omega)
      subst this
      rcases hwt with h | h <;> cases h
theorem l19_eq (n : Nat) (hn : n ≤ 65536) (v : List W32) (x1 x2 : List (List Int)) (x5 x6 : List flow_Rule) : ∀ (m i : Nat) (l : List Int) (tb : List Bool), i + m = n → WK n l tb → 
    ∃ l' tb', flow_solver_solve_1_l19 v x1 x2 l tb x5 x6 (n : Int) (i : Int) = some (l', tb') ∧ WK n l' tb' ∧ (∀ x, x ∈ l' ↔ x ∈ l ∨ ((i : Int) ≤ x ∧ x < (n : Int)))
  | 0, i, l, tb, h, hw => by
    rw [flow_solver_solve_1_l19, if_neg (by simp only [decide_eq_true_eq]; omega)]
    exact ⟨l, tb, rfl, hw, fun x => ⟨.inl, fun hx => hx.resolve_right (by omega)⟩⟩
  | m + 1, i, l, tb, h, hw => by
    have hi : iAdd (i : Int) 1 = ((i + 1 : Nat) : Int) := by rw [iAdd_eq (by omega) (by omega)]; omega
    rw [flow_solver_solve_1_l19, if_pos (decide_eq_true (by omega)), hi]
    obtain ⟨l1, tb1, a1, a2, a3, a4⟩ := add_eq hn hw (i := (i : Int)) (by omega) (by omega)
    rw [a1]
    simp only [bind, Option.bind_some]
    obtain ⟨l', tb', b1, b2, b3⟩ := l19_eq n hn v x1 x2 x5 x6 m (i + 1) l1 tb1 (by omega) a2
    refine ⟨l', tb', b1, b2, fun x => ?_⟩
    rw [b3, a3]
    constructor
    · rintro ((h | h) | h)
      · exact .inl h
      · exact .inr (by omega)
      · exact .inr (by omega)
    · rintro (h | h)
      · exact .inl (.inl h)
      · by_cases hx : x = (i : Int)
        · exact .inl (.inr hx)
        · exact .inr (by omega)
/-- What is so in the first pass, behind some rules. -/
structure First (n : Nat) (b : List flow_Rule) (v0 v : List W32) (us : List (List Int)) (l : List Int) (tb : List Bool) (rs : List flow_Rule) (i : Nat) : Prop where
  vl : v.length = n
  ul : us.length = n
  wk : WK n l tb
  isr : ∀ r, r ∈ rs ↔ r ∈ b.take i ∧ 0 ≤ r.to_ ∧ r.to_ < (n : Int)
  rl : rs.length ≤ i
  isu : ∀ i0 : Nat, ∀ k ∈ us.getD i0 [], ∃ q : Nat, k = (q : Int) ∧ q < rs.length
  un : ∀ i0 : Nat, (us.getD i0 []).length ≤ 2 * i
  use : ∀ (q : Nat) (r : flow_Rule) (j : Int), rs[q]? = some r → (r.from_ = j ∨ r.also = j) → 0 ≤ j → j < (n : Int) → (q : Int) ∈ us.getD j.toNat []
  down : ∀ j, sub (gi v j) (gi v0 j)
  best : ∀ w, Keeps b n w → (∀ j, sub (gi w j) (gi v0 j)) → ∀ j, sub (gi w j) (gi v j)
  hold : ∀ r ∈ rs, ((0 ≤ r.from_ ∧ r.from_ < (n : Int)) ∨ (0 ≤ r.also ∧ r.also < (n : Int))) ∨ Holds v r
theorem First.next {n : Nat} {b : List flow_Rule} {v0 v : List W32} {us : List (List Int)} {l : List Int} {tb : List Bool} {rs : List flow_Rule} {i : Nat} (h : First n b v0 v us l tb rs i) (hi : i < b.length) (hn : ¬ (0 ≤ b[i].to_ ∧ b[i].to_ < (n : Int))) : First n b v0 v us l tb rs (i + 1) where
  vl := h.vl
  ul := h.ul
  wk := h.wk
  isr := fun r => by
    rw [h.isr, take_one hi]
    constructor
    · rintro ⟨h1, h2⟩; exact ⟨.inl h1, h2⟩
    · rintro ⟨h1 | h1, h2⟩
      · exact ⟨h1, h2⟩
      · subst h1; exact absurd h2 hn
  rl := by have := h.rl; omega
  isu := h.isu
  un := fun i0 => by have := h.un i0; omega
  use := h.use
  down := h.down
  best := h.best
  hold := h.hold
theorem First.rule {n : Nat} {b : List flow_Rule} {v0 v : List W32} {us : List (List Int)} {l l' : List Int} {tb tb' : List Bool} {rs : List flow_Rule} {i : Nat} (h : First n b v0 v us l tb rs i) (hi : i < b.length) (h0 : 0 ≤ b[i].to_) (h1 : b[i].to_ < (n : Int)) (hw : WK n l' tb') :
    First n b v0 (v.set b[i].to_.toNat (gi v b[i].to_ ||| rval b[i] v)) (use1 n (use1 n us b[i].from_ (rs.length : Int)) b[i].also (rs.length : Int)) l' tb' (rs ++ [b[i]]) (i + 1) := by
  have h1' : b[i].to_ < (v.length : Int) := by rw [h.vl]; exact h1
  have hlt : b[i].to_.toNat < v.length := by omega
  obtain ⟨c1, c2, c3⟩ := cut_one (l := b) (x := gi v b[i].to_ ||| rval b[i] v) (List.getElem_mem hi) h0 h1' (BitVec.or_comm _ _)
  constructor
  · rw [List.length_set, h.vl]
  · rw [use1_len, use1_len, h.ul]
  · exact hw
  · intro r
    rw [List.mem_append, List.mem_singleton, h.isr, take_one hi]
    constructor
    · rintro (⟨h2, h3⟩ | rfl)
      · exact ⟨.inl h2, h3⟩
      · exact ⟨.inr rfl, h0, h1⟩
    · rintro ⟨h2 | h2, h3⟩
      · exact .inl ⟨h2, h3⟩
      · exact .inr h2
  · have := h.rl
    simp; omega
  · intro i0 k hk
    rcases (use2_get n us h.ul _ _ _ i0 k).1 hk with hk | ⟨rfl, _⟩
    · obtain ⟨q, h2, h3⟩ := h.isu i0 k hk
      exact ⟨q, h2, by simp; omega⟩
    · exact ⟨rs.length, rfl, by simp⟩
  · intro i0
    have h2 := use2_len n us h.ul b[i].from_ b[i].also (rs.length : Int) i0
    have h3 := h.un i0
    omega
  · intro q r j hq hj hj0 hj1
    rw [use2_get n us h.ul]
    rcases get_snoc hq with hq | ⟨rfl, rfl⟩
    · exact .inl (h.use q r j hq hj hj0 hj1)
    · refine .inr ⟨rfl, ?_⟩
      rcases hj with hj | hj
      · exact .inl (by rw [hj]; exact ⟨hj0, hj1, rfl⟩)
      · exact .inr (by rw [hj]; exact ⟨hj0, hj1, rfl⟩)
  · exact fun j => (c1 j).trans (h.down j)
  · exact fun w hk hwv => c2 w (h.vl ▸ hk) (h.best w hk hwv)
  · intro r hr
    by_cases hin : (0 ≤ r.from_ ∧ r.from_ < (n : Int)) ∨ (0 ≤ r.also ∧ r.also < (n : Int))
    · exact .inl hin
    · refine .inr ?_
      have e : rval r (v.set b[i].to_.toNat (gi v b[i].to_ ||| rval b[i] v)) = rval r v := rval_const (by simp) (by rw [List.length_set, h.vl]; exact hin)
      show sub _ _
      rw [e]
      rcases List.mem_append.1 hr with hr | hr
      · exact (c1 r.to_).trans ((h.hold r hr).resolve_left hin)
      · rw [List.mem_singleton] at hr
        subst hr
        have hcast : ((b[i].to_.toNat : Nat) : Int) = b[i].to_ := by omega
        have hg := gi_set v _ (gi v b[i].to_ ||| rval b[i] v) hlt b[i].to_
        rw [hg, hcast, if_pos rfl]
        exact and_sub_r _ _
theorem l5_eq (n : Nat) (hn : n ≤ 65536) (x1 : List (List Int)) (b : List flow_Rule) (hb : b.length ≤ 65536) (v0 : List W32) : ∀ (m i : Nat) (v : List W32) (us : List (List Int)) (l : List Int) (tb : List Bool) (rs : List flow_Rule), i + m = b.length → First n b v0 v us l tb rs i →
    ∃ v' us' l' tb' rs', flow_solver_solve_1_l5 v x1 us l tb rs b b (b.length : Int) (i : Int) = some (v', us', l', tb', rs') ∧ First n b v0 v' us' l' tb' rs' b.length
  | 0, i, v, us, l, tb, rs, h, hf => by
    rw [flow_solver_solve_1_l5, if_neg (by simp only [decide_eq_true_eq]; omega)]
    have : i = b.length := by omega
    subst this
    exact ⟨v, us, l, tb, rs, rfl, hf⟩
  | m + 1, i, v, us, l, tb, rs, h, hf => by
    have hi : iAdd (i : Int) 1 = ((i + 1 : Nat) : Int) := by rw [iAdd_eq (by omega) (by omega)]; omega
    have hlt : i < b.length := by omega
    rw [flow_solver_solve_1_l5, if_pos (decide_eq_true (by omega)), if_pos (decide_eq_true (by omega)), if_pos (decide_eq_true (by omega)), hi]
    have e : List.getD b (Int.toNat (i : Int)) d_flow_Rule = b[i] := by simp [List.getD, hlt]
    rw [e]
    by_cases h0 : b[i].to_ < 0
    · rw [if_pos (decide_eq_true h0)]
      exact l5_eq n hn x1 b hb v0 m (i + 1) v us l tb rs (by omega) (hf.next hlt (by omega))
    · rw [if_neg (by simpa using h0)]
      by_cases h1 : b[i].to_ ≥ (v.length : Int)
      · rw [if_pos (decide_eq_true h1)]
        exact l5_eq n hn x1 b hb v0 m (i + 1) v us l tb rs (by omega) (hf.next hlt (by rw [hf.vl] at h1; omega))
      · rw [if_neg (by simpa using h1)]
        have h2 := l9_eq v x1 l tb rs [b[i].from_, b[i].also] b b[i].to_ b[i].from_ b[i].also b[i].keep b[i].if_ b[i].then_ b (b.length : Int) (i : Int) (by simp) 2 0 us rfl (by rw [hf.ul, hf.vl]) (fun j => by have := hf.un j; omega)
        rw [show ((0 : Nat) : Int) = 0 from rfl] at h2
        rw [h2]
        simp only [bind, Option.bind_some, List.drop_zero, List.foldl_cons, List.foldl_nil]
        rw [if_pos (Nat.ble_eq_true_of_le (by have := hf.rl; simp only [List.length_singleton, reach]; omega))]
        have g0 : 0 ≤ b[i].to_ := by omega
        have g1 : b[i].to_ < (v.length : Int) := by omega
        have g2 : b[i].to_ < (n : Int) := by rw [← hf.vl]; exact g1
        rw [apply_eq v _ b b[i] g0 g1, hf.vl]
        simp only [Option.bind_some]
        by_cases hc : (gi v b[i].to_ ||| rval b[i] v) = gi v b[i].to_
        · rw [if_neg (by simpa using hc)]
          exact l5_eq n hn x1 b hb v0 m (i + 1) _ _ l tb _ (by omega) (hf.rule hlt g0 g2 hf.wk)
        · rw [if_pos (by simpa using hc)]
          obtain ⟨l1, tb1, a1, a2, a3, a4⟩ := add_eq hn hf.wk g0 g2
          rw [a1]
          simp only [Option.bind_some]
          exact l5_eq n hn x1 b hb v0 m (i + 1) _ _ l1 tb1 _ (by omega) (hf.rule hlt g0 g2 a2)
theorem First.start (v0 : List W32) (b : List flow_Rule) : First v0.length b v0 v0 (List.replicate v0.length []) [] (List.replicate v0.length false) [] 0 where
  vl := rfl
  ul := by simp
  wk := ⟨by simp, by simp, by simp, fun i hi => by simp [List.getD, List.getElem?_replicate, hi]⟩
  isr := fun r => by simp
  rl := Nat.le_refl _
  isu := fun i0 k hk => by rw [getD_rep] at hk; cases hk
  un := fun i0 => by rw [getD_rep]; simp
  use := fun q r j hq => by simp at hq
  down := fun j => sub.refl _
  best := fun w _ h => h
  hold := fun r hr => by cases hr
theorem solve_eq (v0 : List W32) (x1 : List (List Int)) (b : List flow_Rule) (hv : v0.length ≤ 65536) (hb : b.length ≤ 65536) : ∃ v us, flow_solver_solve_1 v0 x1 b = some (v, us) ∧ Lfp b v0 v := by
  unfold flow_solver_solve_1
  rw [if_pos (decide_eq_true (by omega)), if_pos (decide_eq_true (by simp only [reach]; omega)), if_pos (decide_eq_true (by simp only [reach]; omega))]
  rw [show Int.toNat ((v0.length : Nat) : Int) = v0.length by omega]
  obtain ⟨v, us, l, tb, rs, h1, hf⟩ := l5_eq v0.length hv x1 b hb v0 b.length 0 v0 _ _ _ _ (by omega) (First.start v0 b)
  rw [show ((0 : Nat) : Int) = 0 from rfl] at h1
  rw [h1]
  simp only [bind, Option.bind_some]
  obtain ⟨l', tb', h2, h3, h4⟩ := l19_eq v0.length hv v x1 us rs b v0.length 0 l tb (by omega) hf.wk
  rw [show ((0 : Nat) : Int) = 0 from rfl] at h2
  rw [hf.vl, h2]
  simp only [Option.bind_some]
  obtain ⟨v', q1, q2, q3, q4, q5⟩ := l23_eq v0.length hv x1 us rs b (fun r hr => ((hf.isr r).1 hr).2) hf.ul hf.isu (fun i0 => by have := hf.un i0; omega) hf.use _ v l' tb' (Nat.le_refl _) hf.vl h3 (fun r hr => by
    rcases hf.hold r hr with (h | h) | h
    · exact .inr (.inl ((h4 _).2 (.inr (by omega))))
    · exact .inr (.inr ((h4 _).2 (.inr (by omega))))
    · exact .inl h)
  rw [q1]
  refine ⟨v', us, rfl, q2, fun j => (q3 j).trans (hf.down j), fun w hk hwv => q4 w (fun r hr => hk r (List.mem_of_mem_take ((hf.isr r).1 hr).1)) (hf.best w hk hwv), fun r hr a0 a1 => ?_⟩
  exact q5 r ((hf.isr r).2 ⟨by rw [List.take_length]; exact hr, a0, a1⟩)
theorem refSolve_low (n : Int) (top : W32) (l : List flow_Rule) (hl : l.length ≤ 65536) : ∃ v, alibiref21_Solve n top l false = some v ∧ Lfp l (if 0 ≤ n ∧ n ≤ 65536 then List.replicate n.toNat 0#32 else []) v := by
  unfold alibiref21_Solve
  by_cases h0 : n < 0
  · rw [if_pos (decide_eq_true h0), if_neg (by omega)]
    exact ⟨[], rfl, rfl, fun j => sub.refl _, fun w _ hw => hw, fun r _ a1 a2 => by simp at a2; omega⟩
  · rw [if_neg (by simpa using h0)]
    by_cases h1 : n > 65536
    · rw [if_pos (decide_eq_true h1), if_neg (by omega)]
      exact ⟨[], rfl, rfl, fun j => sub.refl _, fun w _ hw => hw, fun r _ a1 a2 => by simp at a2; omega⟩
    · rw [if_neg (by simpa using h1), if_pos (decide_eq_true (by omega)), if_pos (decide_eq_true (by simp only [reach]; omega)), if_pos (by omega)]
      have h3 : alibiref21_Solve_l5 (List.replicate n.toNat 0#32) n top l false 0 = some (List.replicate n.toNat 0#32) := by
        rw [alibiref21_Solve_l5]
        split <;> rfl
      rw [h3]
      simp only [bind, Option.bind_some]
      obtain ⟨v, h4, h5⟩ := rounds_up l hl _ (List.replicate n.toNat 0#32) (Nat.le_refl _) (by simp; omega)
      rw [List.length_replicate, show ((n.toNat : Nat) : Int) = n by omega] at h4
      rw [h4]
      exact ⟨v, rfl, h5⟩
theorem least_eq (n : Int) (b : List flow_Rule) (hb : b.length ≤ 65536) : ∃ v, flow_Least n b = some v ∧ Lfp b (if 0 ≤ n ∧ n ≤ 65536 then List.replicate n.toNat 0#32 else []) v := by
  unfold flow_Least
  have hz : sets_All 0 = some 0#32 := sets_All_le 20 0 _ (by kernel_rfl)
  rw [hz]
  simp only [bind, Option.bind_some]
  rw [start_eq]
  simp only [Option.bind_some]
  obtain ⟨v, us, h1, h2⟩ := solve_eq (if 0 ≤ n ∧ n ≤ 65536 then List.replicate n.toNat 0#32 else []) [] b (by split <;> simp; omega) hb
  rw [h1]
  exact ⟨v, rfl, h2⟩
end Dual
end Go.Bm.GoYtldkmmnffjdliaa
