/- The program's solver: what holds, and what waits. -/
import Derived.Test.YtldkmmnffjdliaaLawFlow5
namespace Go.Bm.GoYtldkmmnffjdliaa
set_option autoImplicit false
set_option linter.unusedVariables false
set_option linter.unusedSimpArgs false
/-- A rule holds. -/
def Holds (v : List W32) (r : flow_Rule) : Prop := sub (gi v r.to_) (rval r v)
/-- One of a rule's inputs waits. -/
def Waits (l : List Int) (r : flow_Rule) : Prop := r.from_ ∈ l ∨ r.also ∈ l
theorem rval_congr {r : flow_Rule} {v w : List W32} (h1 : gi v r.from_ = gi w r.from_) (h2 : gi v r.also = gi w r.also) : rval r v = rval r w := by unfold rval; rw [h1, h2]
theorem holds_after {v : List W32} {t : Int} {x : W32} (h0 : 0 ≤ t) (h1 : t < v.length) (hx : sub x (gi v t)) {r : flow_Rule} (hr : Holds v r) (hf : r.from_ ≠ t) (ha : r.also ≠ t) : Holds (v.set t.toNat x) r := by
  have hlt : t.toNat < v.length := by omega
  have hcast : ((t.toNat : Nat) : Int) = t := by omega
  have hg : ∀ j, gi (v.set t.toNat x) j = if j = t then x else gi v j := fun j => by rw [gi_set v _ x hlt j, hcast]
  unfold Holds at hr ⊢
  rw [rval_congr (v := v.set t.toNat x) (w := v) (by rw [hg, if_neg hf]) (by rw [hg, if_neg ha]), hg]
  split
  · rename_i e; rw [e] at hr; exact hx.trans hr
  · exact hr
/-- A rule is done: it holds then, or waits; so does what held, or waited. -/
theorem done_step {v : List W32} {r0 : flow_Rule} {l l' : List Int} (h0 : 0 ≤ r0.to_) (h1 : r0.to_ < v.length) (hl : ∀ y, y ∈ l → y ∈ l') (ht : (gi v r0.to_ &&& rval r0 v) ≠ gi v r0.to_ → r0.to_ ∈ l') :
    (∀ r, Holds v r ∨ Waits l r → Holds (v.set r0.to_.toNat (gi v r0.to_ &&& rval r0 v)) r ∨ Waits l' r) ∧ (Holds (v.set r0.to_.toNat (gi v r0.to_ &&& rval r0 v)) r0 ∨ Waits l' r0) := by
  have hlt : r0.to_.toNat < v.length := by omega
  have hcast : ((r0.to_.toNat : Nat) : Int) = r0.to_ := by omega
  by_cases hc : (gi v r0.to_ &&& rval r0 v) = gi v r0.to_
  · have e : v.set r0.to_.toNat (gi v r0.to_ &&& rval r0 v) = v := by
      rw [hc]
      have := gi_get h0 h1
      rw [← this]
      simp
    rw [e]
    refine ⟨fun r hr => hr.imp id fun hw => hw.imp (hl _) (hl _), .inl ?_⟩
    show sub (gi v r0.to_) (rval r0 v)
    rw [← hc]
    exact and_sub_r _ _
  · have ht := ht hc
    have key : ∀ r, (r.from_ = r0.to_ ∨ r.also = r0.to_) → Waits l' r := fun r h => h.elim (fun e => .inl (e ▸ ht)) fun e => .inr (e ▸ ht)
    refine ⟨fun r hr => ?_, ?_⟩
    · by_cases hin : r.from_ = r0.to_ ∨ r.also = r0.to_
      · exact .inr (key r hin)
      · rcases hr with hr | hr
        · exact .inl (holds_after h0 h1 (and_sub_l _ _) hr (fun e => hin (.inl e)) fun e => hin (.inr e))
        · exact .inr (hr.imp (hl _) (hl _))
    · by_cases hin : r0.from_ = r0.to_ ∨ r0.also = r0.to_
      · exact .inr (key r0 hin)
      · refine .inl ?_
        have hg : ∀ j, gi (v.set r0.to_.toNat (gi v r0.to_ &&& rval r0 v)) j = if j = r0.to_ then (gi v r0.to_ &&& rval r0 v) else gi v j := fun j => by rw [gi_set v _ _ hlt j, hcast]
        show sub (gi _ r0.to_) (rval r0 _)
        rw [rval_congr (v := v.set r0.to_.toNat (gi v r0.to_ &&& rval r0 v)) (w := v) (by rw [hg, if_neg fun e => hin (.inl e)]) (by rw [hg, if_neg fun e => hin (.inr e)]), hg, if_pos rfl]
        exact and_sub_r _ _
theorem l25_eq (n : Nat) (hn : n ≤ 65536) (x1 : List (List Int)) (us : List (List Int)) (rs : List flow_Rule) (x6 : List flow_Rule) (i0 : Nat) (hrs : ∀ r ∈ rs, 0 ≤ r.to_ ∧ r.to_ < (n : Int)) (hus : ∀ k ∈ us.getD i0 [], ∃ q : Nat, k = (q : Int) ∧ q < rs.length) (hlen : (us.getD i0 []).length ≤ 1000000) :
    ∀ (m i : Nat) (v : List W32) (l : List Int) (tb : List Bool), i + m = (us.getD i0 []).length → v.length = n → WK n l tb →
    ∃ v' l' tb', flow_solver_solve_l25 v x1 us l tb rs x6 i0 (((us.getD i0 []).length : Nat) : Int) (i : Int) = some (v', l', tb') ∧ v'.length = n ∧ WK n l' tb' ∧ (∀ j, sub (gi v' j) (gi v j)) ∧ (∀ w, Keeps rs n w → (∀ j, sub (gi w j) (gi v j)) → ∀ j, sub (gi w j) (gi v' j)) ∧
      2 * pops v' + l'.length ≤ 2 * pops v + l.length ∧ (∀ r, Holds v r ∨ Waits l r → Holds v' r ∨ Waits l' r) ∧ (∀ (q : Nat) (r : flow_Rule), rs[q]? = some r → (q : Int) ∈ (us.getD i0 []).drop i → Holds v' r ∨ Waits l' r)
  | 0, i, v, l, tb, h, hv, hw => by
    rw [flow_solver_solve_l25, if_neg (by simp only [decide_eq_true_eq]; omega)]
    refine ⟨v, l, tb, rfl, hv, hw, fun j => sub.refl _, fun w _ hh => hh, Nat.le_refl _, fun r hr => hr, fun q r _ hq => ?_⟩
    rw [List.drop_eq_nil_of_le (by omega)] at hq
    cases hq
  | m + 1, i, v, l, tb, h, hv, hw => by
    have hi : iAdd (i : Int) 1 = ((i + 1 : Nat) : Int) := by rw [iAdd_eq (by omega) (by omega)]; omega
    have hlt : i < (us.getD i0 []).length := by omega
    rw [flow_solver_solve_l25, if_pos (decide_eq_true (by omega)), if_pos (decide_eq_true (by omega)), if_pos (decide_eq_true (by omega)), hi]
    have e : List.getD (us.getD i0 []) (Int.toNat (i : Int)) 0 = (us.getD i0 [])[i] := by
      rw [Int.toNat_natCast]
      exact (List.getD_eq_getElem?_getD ..).trans (by rw [List.getElem?_eq_getElem hlt]; rfl)
    obtain ⟨q, hq1, hq2⟩ := hus _ (List.getElem_mem hlt)
    have hdrop : (us.getD i0 []).drop i = (us.getD i0 [])[i] :: (us.getD i0 []).drop (i + 1) := List.drop_eq_getElem_cons hlt
    rw [hdrop, e, hq1, if_pos (decide_eq_true (by omega)), if_pos (decide_eq_true (by omega))]
    have er : List.getD rs (Int.toNat (q : Int)) d_flow_Rule = rs[q] := by simp [List.getD, hq2]
    rw [er]
    obtain ⟨r0, r1⟩ := hrs _ (List.getElem_mem hq2)
    have r1' : rs[q].to_ < (v.length : Int) := by rw [hv]; exact r1
    rw [apply_eq v us x6 rs[q] r0 r1']
    simp only [bind, Option.bind_some]
    have hx : rval rs[q] v &&& gi v rs[q].to_ = gi v rs[q].to_ &&& rval rs[q] v := BitVec.and_comm _ _
    obtain ⟨c1, c2, c3⟩ := cut_one (l := rs) (x := gi v rs[q].to_ &&& rval rs[q] v) (List.getElem_mem hq2) r0 r1' hx.symm
    have hlen2 : (v.set rs[q].to_.toNat (gi v rs[q].to_ &&& rval rs[q] v)).length = n := by simp [hv]
    have hrq : rs[q]? = some rs[q] := List.getElem?_eq_getElem hq2
    by_cases hc : (gi v rs[q].to_ &&& rval rs[q] v) = gi v rs[q].to_
    · rw [if_neg (by simpa using hc)]
      obtain ⟨d1, d2⟩ := done_step (l := l) (l' := l) r0 r1' (fun _ h => h) (fun hh => absurd hc hh)
      have hpe : v.set rs[q].to_.toNat (gi v rs[q].to_ &&& rval rs[q] v) = v := by
        rw [hc]
        have := gi_get r0 r1'
        rw [← this]; simp
      rw [hpe] at d1 d2 ⊢
      obtain ⟨v', l', tb', q1, q2, q3, q4, q5, q6, q7, q8⟩ := l25_eq n hn x1 us rs x6 i0 hrs hus hlen m (i + 1) v l tb (by omega) hv hw
      refine ⟨v', l', tb', q1, q2, q3, q4, q5, q6, q7, fun k r hk hm => ?_⟩
      rcases List.mem_cons.1 hm with hm | hm
      · have : k = q := by omega
        subst this
        rw [hrq] at hk
        cases hk
        exact q7 _ d2
      · exact q8 k r hk hm
    · rw [if_pos (by simpa using hc)]
      obtain ⟨l1, tb1, a1, a2, a3, a4⟩ := add_eq hn hw r0 r1
      rw [a1]
      simp only [Option.bind_some]
      obtain ⟨d1, d2⟩ := done_step (l := l) (l' := l1) r0 r1' (fun y hy => (a3 y).2 (.inl hy)) (fun _ => (a3 _).2 (.inr rfl))
      have hp := c3 hc
      obtain ⟨v', l', tb', q1, q2, q3, q4, q5, q6, q7, q8⟩ := l25_eq n hn x1 us rs x6 i0 hrs hus hlen m (i + 1) _ l1 tb1 (by omega) hlen2 a2
      refine ⟨v', l', tb', q1, q2, q3, fun j => (q4 j).trans (c1 j), fun w hk hwv => q5 w hk (c2 w (hv ▸ hk) hwv), by omega, fun r hr => q7 r (d1 r hr), fun k r hk hm => ?_⟩
      rcases List.mem_cons.1 hm with hm | hm
      · have : k = q := by omega
        subst this
        rw [hrq] at hk
        cases hk
        exact q7 _ d2
      · exact q8 k r hk hm
theorem l23_eq (n : Nat) (hn : n ≤ 65536) (x1 : List (List Int)) (us : List (List Int)) (rs : List flow_Rule) (x6 : List flow_Rule) (hrs : ∀ r ∈ rs, 0 ≤ r.to_ ∧ r.to_ < (n : Int)) (husl : us.length = n) (hus : ∀ i0 : Nat, ∀ k ∈ us.getD i0 [], ∃ q : Nat, k = (q : Int) ∧ q < rs.length) (hlen : ∀ i0 : Nat, (us.getD i0 []).length ≤ 1000000)
    (huse : ∀ (q : Nat) (r : flow_Rule) (j : Int), rs[q]? = some r → (r.from_ = j ∨ r.also = j) → 0 ≤ j → j < (n : Int) → (q : Int) ∈ us.getD j.toNat []) :
    ∀ (M : Nat) (v : List W32) (l : List Int) (tb : List Bool), 2 * pops v + l.length ≤ M → v.length = n → WK n l tb → (∀ r ∈ rs, Holds v r ∨ Waits l r) →
    ∃ v', flow_solver_solve_l23 v x1 us l tb rs x6 = some v' ∧ v'.length = n ∧ (∀ j, sub (gi v' j) (gi v j)) ∧ (∀ w, Keeps rs n w → (∀ j, sub (gi w j) (gi v j)) → ∀ j, sub (gi w j) (gi v' j)) ∧ ∀ r ∈ rs, Holds v' r
  | M, v, l, tb, hM, hv, hw, hall => by
    rw [flow_solver_solve_l23]
    unfold flow_todo_Len
    simp only [bind, Option.bind_some]
    by_cases h0 : 0 < l.length
    · rw [if_pos (decide_eq_true (by omega))]
      obtain ⟨i, l1, tb1, a1, a2, a3, a4, a5⟩ := next_eq hn hw h0
      have hir := hw.rng i a2
      rw [a1]
      simp only [Option.bind_some]
      rw [if_pos (decide_eq_true hir.1), if_pos (decide_eq_true (by rw [husl]; exact hir.2))]
      obtain ⟨v', l', tb', q1, q2, q3, q4, q5, q6, q7, q8⟩ := l25_eq n hn x1 us rs x6 i.toNat hrs (hus _) (hlen _) (us.getD i.toNat []).length 0 v l1 tb1 (Nat.zero_add _) hv a3
      rw [show ((0 : Nat) : Int) = 0 from rfl] at q1
      rw [q1]
      simp only [Option.bind_some]
      have hall' : ∀ r ∈ rs, Holds v' r ∨ Waits l' r := by
        intro r hr
        obtain ⟨q, hq⟩ := List.getElem?_of_mem hr
        by_cases hin : r.from_ = i ∨ r.also = i
        · exact q8 q r hq (by rw [List.drop_zero]; exact huse q r i hq hin hir.1 hir.2)
        · refine q7 r ((hall r hr).imp id fun hwt => ?_)
          rcases hwt with hwt | hwt
          · exact .inl ((a4 _).2 ⟨hwt, fun e => hin (.inl e)⟩)
          · exact .inr ((a4 _).2 ⟨hwt, fun e => hin (.inr e)⟩)
      match M, hM with
      | 0, hM => omega
      | M + 1, hM =>
        obtain ⟨v2, b1, b2, b3, b4, b5⟩ := l23_eq n hn x1 us rs x6 hrs husl hus hlen huse M v' l' tb' (by omega) q2 q3 hall'
        exact ⟨v2, b1, b2, fun j => (b3 j).trans (q4 j), fun w hk hwv => b4 w hk (q5 w hk hwv), b5⟩
    · rw [if_neg (by simp only [decide_eq_true_eq]; omega)]
      refine ⟨v, rfl, hv, fun j => sub.refl _, fun w _ hh => hh, fun r hr => (hall r hr).resolve_right fun hwt => ?_⟩
      have : l = [] := List.length_eq_zero_iff.1 (by omega)
      subst this
      rcases hwt with h | h <;> cases h
theorem l19_eq (n : Nat) (hn : n ≤ 65536) (v : List W32) (x1 x2 : List (List Int)) (x5 x6 : List flow_Rule) : ∀ (m i : Nat) (l : List Int) (tb : List Bool), i + m = n → WK n l tb → 
    ∃ l' tb', flow_solver_solve_l19 v x1 x2 l tb x5 x6 (n : Int) (i : Int) = some (l', tb') ∧ WK n l' tb' ∧ (∀ x, x ∈ l' ↔ x ∈ l ∨ ((i : Int) ≤ x ∧ x < (n : Int)))
  | 0, i, l, tb, h, hw => by
    rw [flow_solver_solve_l19, if_neg (by simp only [decide_eq_true_eq]; omega)]
    exact ⟨l, tb, rfl, hw, fun x => ⟨.inl, fun hx => hx.resolve_right (by omega)⟩⟩
  | m + 1, i, l, tb, h, hw => by
    have hi : iAdd (i : Int) 1 = ((i + 1 : Nat) : Int) := by rw [iAdd_eq (by omega) (by omega)]; omega
    rw [flow_solver_solve_l19, if_pos (decide_eq_true (by omega)), hi]
    obtain ⟨l1, tb1, a1, a2, a3, a4⟩ := add_eq hn hw (i := (i : Int)) (by omega) (by omega)
    rw [a1]
    simp only [bind, Option.bind_some]
    obtain ⟨l', tb', b1, b2, b3⟩ := l19_eq n hn v x1 x2 x5 x6 m (i + 1) l1 tb1 (by omega) a2
    refine ⟨l', tb', b1, b2, fun x => ?_⟩
    rw [b3, a3]
    constructor
    · rintro ((h | h) | h)
      · exact .inl h
      · exact .inr (by omega)
      · exact .inr (by omega)
    · rintro (h | h)
      · exact .inl (.inl h)
      · by_cases hx : x = (i : Int)
        · exact .inl (.inr hx)
        · exact .inr (by omega)
end Go.Bm.GoYtldkmmnffjdliaa
