/- The document's solver, and how sets shrink. -/
import Derived.Test.YtldkmmnffjdliaaLawFlow4
namespace Go.Bm.GoYtldkmmnffjdliaa
set_option autoImplicit false
set_option linter.unusedVariables false
set_option linter.unusedSimpArgs false
/-- How many bits a set has. -/
def pop (a : W32) : Nat := ((List.range 32).filter fun i => a.getLsbD i).length
theorem filter_le {p q : Nat → Bool} (l : List Nat) (h : ∀ i, p i = true → q i = true) : (l.filter p).length ≤ (l.filter q).length := by
  induction l with
  | nil => simp
  | cons x l ih =>
    simp only [List.filter_cons]
    cases hp : p x with
    | true => rw [h x hp]; simpa using ih
    | false => cases q x <;> simp <;> omega
theorem filter_lt {p q : Nat → Bool} (l : List Nat) (h : ∀ i, p i = true → q i = true) {x : Nat} (hx : x ∈ l) (h1 : p x = false) (h2 : q x = true) : (l.filter p).length < (l.filter q).length := by
  induction l with
  | nil => cases hx
  | cons y l ih =>
    simp only [List.filter_cons]
    rcases List.mem_cons.1 hx with rfl | hx
    · rw [h1, h2]
      have := filter_le l h
      simp; omega
    · have ih := ih hx
      cases hp : p y with
      | true => rw [h y hp]; simpa using ih
      | false => cases q y <;> simp <;> omega
theorem pop_le {a b : W32} (h : sub a b) : pop a ≤ pop b := filter_le _ h
theorem pop_lt {a b : W32} (h : sub a b) (hn : a ≠ b) : pop a < pop b := by
  have : ∃ i, i < 32 ∧ a.getLsbD i = false ∧ b.getLsbD i = true := by
    apply Classical.byContradiction
    intro hno
    apply hn
    apply BitVec.eq_of_getLsbD_eq
    intro i hi
    cases ha : a.getLsbD i with
    | true => rw [h i ha]
    | false =>
      cases hb : b.getLsbD i with
      | false => rfl
      | true => exact absurd ⟨i, hi, ha, hb⟩ hno
  obtain ⟨i, hi, h1, h2⟩ := this
  exact filter_lt _ h (List.mem_range.2 hi) h1 h2
theorem pop_32 (a : W32) : pop a ≤ 32 := Nat.le_trans (List.length_filter_le _ _) (by simp)
def pops (v : List W32) : Nat := (v.map pop).sum
theorem pops_set : ∀ (v : List W32) (i : Nat) (x : W32) (h : i < v.length), pops (v.set i x) + pop v[i] = pops v + pop x
  | a :: v, 0, x, h => by simp [pops]; omega
  | a :: v, i + 1, x, h => by
    have := pops_set v i x (by simpa using h)
    simp [pops] at this ⊢
    omega
theorem pops_le : ∀ v : List W32, pops v ≤ 32 * v.length
  | [] => by simp [pops]
  | a :: v => by
    have h1 := pops_le v
    have h2 := pop_32 a
    simp [pops] at h1 ⊢
    omega
/-- Sets that keep the rules from above. -/
def Keeps (l : List flow_Rule) (n : Nat) (w : List W32) : Prop := ∀ r ∈ l, 0 ≤ r.to_ → r.to_ < (n : Int) → sub (gi w r.to_) (rval r w)
theorem gi_get {v : List W32} {j : Int} (h0 : 0 ≤ j) (h1 : j < v.length) : v[j.toNat]'(by omega) = gi v j := by
  unfold gi
  rw [if_pos ⟨h0, h1⟩]
  simp [List.getD, show j.toNat < v.length by omega]
/-- One set less: what is so of the sets then. -/
theorem cut_one {l : List flow_Rule} {v : List W32} {r : flow_Rule} {x : W32} (hr : r ∈ l) (h0 : 0 ≤ r.to_) (h1 : r.to_ < v.length) (hx : x = rval r v &&& gi v r.to_) :
    (∀ j, sub (gi (v.set r.to_.toNat x) j) (gi v j)) ∧ (∀ w, Keeps l v.length w → (∀ j, sub (gi w j) (gi v j)) → ∀ j, sub (gi w j) (gi (v.set r.to_.toNat x) j)) ∧ (x ≠ gi v r.to_ → pops (v.set r.to_.toNat x) < pops v) := by
  have hlt : r.to_.toNat < v.length := by omega
  have hcast : ((r.to_.toNat : Nat) : Int) = r.to_ := by omega
  have hg : ∀ j, gi (v.set r.to_.toNat x) j = if j = r.to_ then x else gi v j := fun j => by rw [gi_set v _ x hlt j, hcast]
  have hsub : sub x (gi v r.to_) := by rw [hx]; exact and_sub_r _ _
  refine ⟨fun j => ?_, fun w hw hwv j => ?_, fun hne => ?_⟩
  · rw [hg]
    split
    · rename_i e; rw [e]; exact hsub
    · exact sub.refl _
  · rw [hg]
    split
    · rename_i e
      rw [e, hx]
      exact sub_and (sub.trans (hw r hr h0 h1) (rval_mono r hwv)) (hwv _)
    · exact hwv j
  · have h2 := pops_set v r.to_.toNat x hlt
    have h3 : v[r.to_.toNat] = gi v r.to_ := gi_get h0 h1
    have h4 := pop_lt hsub hne
    rw [h3] at h2
    omega
theorem round_up (l : List flow_Rule) (hl : l.length ≤ 65536) (n : Nat) : ∀ (m i : Nat) (v : List W32) (ag : Bool), i + m = l.length → v.length = n → v.length ≤ 65536 →
    ∃ v' ag', alibiref21_Solve_l12 v (n : Int) l true ag (i : Int) = some (v', ag') ∧ v'.length = v.length ∧ (∀ j, sub (gi v' j) (gi v j)) ∧ (∀ w, Keeps l n w → (∀ j, sub (gi w j) (gi v j)) → ∀ j, sub (gi w j) (gi v' j)) ∧ pops v' ≤ pops v ∧
      (ag' = false → ag = false ∧ v' = v ∧ ∀ r ∈ l.drop i, 0 ≤ r.to_ → r.to_ < (n : Int) → sub (gi v r.to_) (rval r v)) ∧ (ag = false → ag' = true → pops v' < pops v)
  | 0, i, v, ag, h, hv, hv' => by
    rw [alibiref21_Solve_l12, if_neg (by simp only [decide_eq_true_eq]; omega)]
    refine ⟨v, ag, rfl, rfl, fun j => sub.refl _, fun w _ hw => hw, Nat.le_refl _, fun h0 => ⟨h0, rfl, fun r hr => ?_⟩, fun h1 h2 => by rw [h1] at h2; cases h2⟩
    rw [List.drop_eq_nil_of_le (by omega)] at hr
    cases hr
  | m + 1, i, v, ag, h, hv, hv' => by
    have hi : iAdd (i : Int) 1 = ((i + 1 : Nat) : Int) := by rw [iAdd_eq (by omega) (by omega)]; omega
    have hlt : i < l.length := by omega
    rw [alibiref21_Solve_l12, if_pos (decide_eq_true (by omega)), if_pos (decide_eq_true (by omega)), if_pos (decide_eq_true (by omega)), hi]
    have e : List.getD l (Int.toNat (i : Int)) d_flow_Rule = l[i] := by simp [List.getD, hlt]
    rw [e]
    have hmem : l[i] ∈ l := List.getElem_mem hlt
    have hdrop : l.drop i = l[i] :: l.drop (i + 1) := List.drop_eq_getElem_cons hlt
    rw [hdrop]
    generalize l[i] = r at hmem
    by_cases h0 : r.to_ < 0
    · rw [if_pos (decide_eq_true h0)]
      obtain ⟨v', ag', q1, q2, q3, q4, q5, q6, q7⟩ := round_up l hl n m (i + 1) v ag (by omega) hv hv'
      refine ⟨v', ag', q1, q2, q3, q4, q5, fun hh => ⟨(q6 hh).1, (q6 hh).2.1, fun s hs a1 a2 => ?_⟩, q7⟩
      rcases List.mem_cons.1 hs with rfl | hs
      · omega
      · exact (q6 hh).2.2 s hs a1 a2
    · rw [if_neg (by simpa using h0)]
      by_cases h1 : r.to_ ≥ (n : Int)
      · rw [if_pos (decide_eq_true h1)]
        obtain ⟨v', ag', q1, q2, q3, q4, q5, q6, q7⟩ := round_up l hl n m (i + 1) v ag (by omega) hv hv'
        refine ⟨v', ag', q1, q2, q3, q4, q5, fun hh => ⟨(q6 hh).1, (q6 hh).2.1, fun s hs a1 a2 => ?_⟩, q7⟩
        rcases List.mem_cons.1 hs with rfl | hs
        · omega
        · exact (q6 hh).2.2 s hs a1 a2
      · rw [if_neg (by simpa using h1), refValue_eq r v hv']
        simp only [bind, Option.bind_some, if_true]
        have g0 : (0 : Int) ≤ r.to_ := by omega
        have g1 : r.to_ < (v.length : Int) := by omega
        rw [if_pos (decide_eq_true g0), if_pos (decide_eq_true g1)]
        have eg : List.getD v r.to_.toNat 0#32 = gi v r.to_ := by unfold gi; rw [if_pos ⟨g0, g1⟩]
        rw [eg]
        obtain ⟨c1, c2, c3⟩ := cut_one (l := l) (x := rval r v &&& gi v r.to_) hmem g0 g1 rfl
        by_cases hne : (rval r v &&& gi v r.to_) = gi v r.to_
        · rw [if_neg (by simpa using hne)]
          obtain ⟨v', ag', q1, q2, q3, q4, q5, q6, q7⟩ := round_up l hl n m (i + 1) v ag (by omega) hv hv'
          refine ⟨v', ag', q1, q2, q3, q4, q5, fun hh => ⟨(q6 hh).1, (q6 hh).2.1, fun s hs a1 a2 => ?_⟩, q7⟩
          rcases List.mem_cons.1 hs with rfl | hs
          · rw [← hne]; exact and_sub_l _ _
          · exact (q6 hh).2.2 s hs a1 a2
        · rw [if_pos (by simpa using hne)]
          obtain ⟨v', ag', q1, q2, q3, q4, q5, q6, q7⟩ := round_up l hl n m (i + 1) (v.set r.to_.toNat (rval r v &&& gi v r.to_)) true (by omega) (by simp [hv]) (by simpa using hv')
          have hlt' := c3 hne
          refine ⟨v', ag', q1, by rw [q2]; simp, fun j => (q3 j).trans (c1 j), fun w hw hwv => q4 w hw (c2 w (hv ▸ hw) hwv), by omega, fun hh => ?_, fun _ _ => by omega⟩
          have := (q6 hh).1
          cases this
/-- The greatest sets that keep the rules, within some. -/
structure Gfp (l : List flow_Rule) (v v' : List W32) : Prop where
  len : v'.length = v.length
  sub : ∀ j, sub (gi v' j) (gi v j)
  best : ∀ w, Keeps l v.length w → (∀ j, Bm.GoYtldkmmnffjdliaa.sub (gi w j) (gi v j)) → ∀ j, Bm.GoYtldkmmnffjdliaa.sub (gi w j) (gi v' j)
  keeps : Keeps l v.length v'
theorem rounds_up (l : List flow_Rule) (hl : l.length ≤ 65536) : ∀ (m : Nat) (v : List W32), pops v ≤ m → v.length ≤ 65536 → ∃ v', alibiref21_Solve_l9 v (v.length : Int) l true true = some v' ∧ Gfp l v v'
  | m, v, hm, hv => by
    rw [alibiref21_Solve_l9, if_pos rfl]
    obtain ⟨v1, ag, q1, q2, q3, q4, q5, q6, q7⟩ := round_up l hl v.length l.length 0 v false (by omega) rfl hv
    rw [show ((0 : Nat) : Int) = 0 from rfl] at q1
    rw [q1]
    simp only [bind, Option.bind_some]
    cases ag with
    | false =>
      rw [alibiref21_Solve_l9, if_neg (by simp)]
      obtain ⟨_, rfl, h3⟩ := q6 rfl
      exact ⟨v1, rfl, rfl, q3, fun w hw hwv => hwv, fun r hr a1 a2 => h3 r (by simpa using hr) a1 a2⟩
    | true =>
      have hlt := q7 rfl rfl
      match m, hm with
      | 0, hm => omega
      | m + 1, hm =>
        obtain ⟨v', h1, h2⟩ := rounds_up l hl m v1 (by omega) (by omega)
        rw [q2] at h1
        have hk := h2.keeps
        rw [q2] at hk
        exact ⟨v', h1, h2.len.trans q2, fun j => (h2.sub j).trans (q3 j), fun w hw hwv => h2.best w (by rw [q2]; exact hw) (q4 w hw hwv), hk⟩
theorem ext_gi {v w : List W32} (hl : v.length = w.length) (h : ∀ j : Int, gi v j = gi w j) : v = w := by
  apply List.ext_getElem hl
  intro i h1 h2
  have := h (i : Int)
  unfold gi at this
  rw [if_pos (by omega), if_pos (by omega)] at this
  simpa [List.getD, h1, h2] using this
theorem Gfp.unique {l : List flow_Rule} {v a b : List W32} (ha : Gfp l v a) (hb : Gfp l v b) : a = b :=
  ext_gi (ha.len.trans hb.len.symm) fun j => (hb.best a ha.keeps ha.sub j).antisymm (ha.best b hb.keeps hb.sub j)
theorem set_take (x : List W32) (i m : Nat) (top : W32) (h : i + (m + 1) = x.length) : (x.set i top).take (i + 1) ++ List.replicate m top = x.take i ++ List.replicate (m + 1) top := by
  have h1 : (x.set i top).take (i + 1) = x.take i ++ [top] := by
    apply List.ext_getElem?
    intro k
    by_cases hk : k < i
    · rw [List.getElem?_take, if_pos (by omega), List.getElem?_append_left (by simp; omega), List.getElem?_take, if_pos hk, List.getElem?_set, if_neg (by omega)]
    · by_cases hk2 : k = i
      · subst hk2
        rw [List.getElem?_take, if_pos (by omega), List.getElem?_append_right (by simp; omega)]
        simp [show k < x.length by omega, Nat.min_eq_left (show k ≤ x.length by omega)]
      · rw [List.getElem?_take, if_neg (by omega)]
        rw [List.getElem?_eq_none (by simp; omega)]
  rw [h1, List.replicate_succ]
  simp
theorem fill_ref (n : Nat) (hn : n ≤ 65536) (top : W32) (l : List flow_Rule) : ∀ (m i : Nat) (x : List W32), i + m = n → x.length = n → alibiref21_Solve_l5 x (n : Int) top l true (i : Int) = some (x.take i ++ List.replicate m top)
  | 0, i, x, h, hx => by
    rw [alibiref21_Solve_l5, if_neg (by simp only [decide_eq_true_eq]; omega), List.take_of_length_le (by omega)]
    simp
  | m + 1, i, x, h, hx => by
    have hi : iAdd (i : Int) 1 = ((i + 1 : Nat) : Int) := by rw [iAdd_eq (by omega) (by omega)]; omega
    rw [alibiref21_Solve_l5, if_pos (decide_eq_true (by omega)), if_pos rfl, if_pos (decide_eq_true (by omega)), if_pos (decide_eq_true (by omega)), hi, fill_ref n hn top l m (i + 1) _ (by omega) (by simp [hx])]
    rw [show (Int.toNat (i : Int)) = i by omega, set_take x i m top (by omega)]
theorem fill_prog (n : Nat) (hn : n ≤ 65536) (top : W32) : ∀ (m i : Nat) (x : List W32), i + m = n → x.length = n → flow_start_l5 x top (n : Int) (i : Int) = some (x.take i ++ List.replicate m top)
  | 0, i, x, h, hx => by
    rw [flow_start_l5, if_neg (by simp only [decide_eq_true_eq]; omega), List.take_of_length_le (by omega)]
    simp
  | m + 1, i, x, h, hx => by
    have hi : iAdd (i : Int) 1 = ((i + 1 : Nat) : Int) := by rw [iAdd_eq (by omega) (by omega)]; omega
    rw [flow_start_l5, if_pos (decide_eq_true (by omega)), if_pos (decide_eq_true (by omega)), if_pos (decide_eq_true (by omega)), hi, fill_prog n hn top m (i + 1) _ (by omega) (by simp [hx])]
    rw [show (Int.toNat (i : Int)) = i by omega, set_take x i m top (by omega)]
theorem start_eq (n : Int) (top : W32) : flow_start n top = some (if 0 ≤ n ∧ n ≤ 65536 then List.replicate n.toNat top else []) := by
  unfold flow_start
  by_cases h0 : n < 0
  · rw [if_pos (decide_eq_true h0), if_neg (by omega)]
  · rw [if_neg (by simpa using h0)]
    by_cases h1 : n > 65536
    · rw [if_pos (decide_eq_true h1), if_neg (by omega)]
    · rw [if_neg (by simpa using h1), if_pos (decide_eq_true (by omega)), if_pos (decide_eq_true (by simp only [reach]; omega)), if_pos (by omega)]
      have := fill_prog n.toNat (by omega) top n.toNat 0 (List.replicate n.toNat 0#32) (by omega) (by simp)
      have h3 : flow_start_l5 (List.replicate n.toNat 0#32) top ((n.toNat : Nat) : Int) 0 = some (List.replicate n.toNat top) := by simpa using this
      rw [List.length_replicate, h3]
      rfl
theorem refSolve_up (n : Int) (top : W32) (l : List flow_Rule) (hl : l.length ≤ 65536) : ∃ v, alibiref21_Solve n top l true = some v ∧ Gfp l (if 0 ≤ n ∧ n ≤ 65536 then List.replicate n.toNat top else []) v := by
  unfold alibiref21_Solve
  by_cases h0 : n < 0
  · rw [if_pos (decide_eq_true h0), if_neg (by omega)]
    exact ⟨[], rfl, rfl, fun j => sub.refl _, fun w _ hw => hw, fun r _ a1 a2 => by simp at a2; omega⟩
  · rw [if_neg (by simpa using h0)]
    by_cases h1 : n > 65536
    · rw [if_pos (decide_eq_true h1), if_neg (by omega)]
      exact ⟨[], rfl, rfl, fun j => sub.refl _, fun w _ hw => hw, fun r _ a1 a2 => by simp at a2; omega⟩
    · rw [if_neg (by simpa using h1), if_pos (decide_eq_true (by omega)), if_pos (decide_eq_true (by simp only [reach]; omega)), if_pos (by omega)]
      have h2 := fill_ref n.toNat (by omega) top l n.toNat 0 (List.replicate n.toNat 0#32) (by omega) (by simp)
      rw [show ((n.toNat : Nat) : Int) = n by omega] at h2
      have h3 : alibiref21_Solve_l5 (List.replicate n.toNat 0#32) n top l true 0 = some (List.replicate n.toNat top) := by simpa using h2
      rw [h3]
      simp only [bind, Option.bind_some]
      obtain ⟨v, h4, h5⟩ := rounds_up l hl _ (List.replicate n.toNat top) (Nat.le_refl _) (by simp; omega)
      rw [List.length_replicate, show ((n.toNat : Nat) : Int) = n by omega] at h4
      rw [h4]
      exact ⟨v, rfl, h5⟩
end Go.Bm.GoYtldkmmnffjdliaa
