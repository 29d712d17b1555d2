/- The program's solver, from above: it answers the greatest sets. -/
import Derived.Test.YtldkmmnffjdliaaLawFlow7
namespace Go.Bm.GoYtldkmmnffjdliaa
set_option autoImplicit false
set_option linter.unusedVariables false
set_option linter.unusedSimpArgs false
theorem take_one {α : Type} {b : List α} {i : Nat} (h : i < b.length) (x : α) : x ∈ b.take (i + 1) ↔ x ∈ b.take i ∨ x = b[i] := by
  rw [← List.take_append_getElem h, List.mem_append, List.mem_singleton]
theorem use2_get (n : Nat) (us : List (List Int)) (hl : us.length = n) (j j' k : Int) (i0 : Nat) (x : Int) : x ∈ (use1 n (use1 n us j k) j' k).getD i0 [] ↔ x ∈ us.getD i0 [] ∨ (x = k ∧ ((0 ≤ j ∧ j < (n : Int) ∧ j.toNat = i0) ∨ (0 ≤ j' ∧ j' < (n : Int) ∧ j'.toNat = i0))) := by
  rw [use1_get n _ ((use1_len n us j k).trans hl), use1_get n us hl]
  by_cases h1 : 0 ≤ j ∧ j < (n : Int) ∧ j.toNat = i0 <;> by_cases h2 : 0 ≤ j' ∧ j' < (n : Int) ∧ j'.toNat = i0 <;> simp [h1, h2, or_assoc]
theorem use2_len (n : Nat) (us : List (List Int)) (hl : us.length = n) (j j' k : Int) (i0 : Nat) : ((use1 n (use1 n us j k) j' k).getD i0 []).length ≤ (us.getD i0 []).length + 2 := by
  rw [use1_get n _ ((use1_len n us j k).trans hl), use1_get n us hl]
  by_cases h1 : 0 ≤ j ∧ j < (n : Int) ∧ j.toNat = i0 <;> by_cases h2 : 0 ≤ j' ∧ j' < (n : Int) ∧ j'.toNat = i0 <;> simp [h1, h2]
theorem get_snoc {α : Type} {l : List α} {x r : α} {q : Nat} (h : (l ++ [x])[q]? = some r) : l[q]? = some r ∨ (q = l.length ∧ r = x) := by
  rw [List.getElem?_append] at h
  split at h
  · exact .inl h
  · refine .inr ?_
    rename_i hq
    have h2 : q - l.length = 0 := by
      rcases Nat.eq_zero_or_pos (q - l.length) with h3 | h3
      · exact h3
      · rw [List.getElem?_eq_none (by simp; omega)] at h; cases h
    rw [h2] at h
    refine ⟨by omega, ?_⟩
    simpa using h.symm
theorem First.next {n : Nat} {b : List flow_Rule} {v0 v : List W32} {us : List (List Int)} {l : List Int} {tb : List Bool} {rs : List flow_Rule} {i : Nat} (h : First n b v0 v us l tb rs i) (hi : i < b.length) (hn : ¬ (0 ≤ b[i].to_ ∧ b[i].to_ < (n : Int))) : First n b v0 v us l tb rs (i + 1) where
  vl := h.vl
  ul := h.ul
  wk := h.wk
  isr := fun r => by
    rw [h.isr, take_one hi]
    constructor
    · rintro ⟨h1, h2⟩; exact ⟨.inl h1, h2⟩
    · rintro ⟨h1 | h1, h2⟩
      · exact ⟨h1, h2⟩
      · subst h1; exact absurd h2 hn
  rl := by have := h.rl; omega
  isu := h.isu
  un := fun i0 => by have := h.un i0; omega
  use := h.use
  down := h.down
  best := h.best
  hold := h.hold
theorem First.rule {n : Nat} {b : List flow_Rule} {v0 v : List W32} {us : List (List Int)} {l l' : List Int} {tb tb' : List Bool} {rs : List flow_Rule} {i : Nat} (h : First n b v0 v us l tb rs i) (hi : i < b.length) (h0 : 0 ≤ b[i].to_) (h1 : b[i].to_ < (n : Int)) (hw : WK n l' tb') :
    First n b v0 (v.set b[i].to_.toNat (gi v b[i].to_ &&& rval b[i] v)) (use1 n (use1 n us b[i].from_ (rs.length : Int)) b[i].also (rs.length : Int)) l' tb' (rs ++ [b[i]]) (i + 1) := by
  have h1' : b[i].to_ < (v.length : Int) := by rw [h.vl]; exact h1
  have hlt : b[i].to_.toNat < v.length := by omega
  obtain ⟨c1, c2, c3⟩ := cut_one (l := b) (x := gi v b[i].to_ &&& rval b[i] v) (List.getElem_mem hi) h0 h1' (BitVec.and_comm _ _)
  constructor
  · rw [List.length_set, h.vl]
  · rw [use1_len, use1_len, h.ul]
  · exact hw
  · intro r
    rw [List.mem_append, List.mem_singleton, h.isr, take_one hi]
    constructor
    · rintro (⟨h2, h3⟩ | rfl)
      · exact ⟨.inl h2, h3⟩
      · exact ⟨.inr rfl, h0, h1⟩
    · rintro ⟨h2 | h2, h3⟩
      · exact .inl ⟨h2, h3⟩
      · exact .inr h2
  · have := h.rl
    simp; omega
  · intro i0 k hk
    rcases (use2_get n us h.ul _ _ _ i0 k).1 hk with hk | ⟨rfl, _⟩
    · obtain ⟨q, h2, h3⟩ := h.isu i0 k hk
      exact ⟨q, h2, by simp; omega⟩
    · exact ⟨rs.length, rfl, by simp⟩
  · intro i0
    have h2 := use2_len n us h.ul b[i].from_ b[i].also (rs.length : Int) i0
    have h3 := h.un i0
    omega
  · intro q r j hq hj hj0 hj1
    rw [use2_get n us h.ul]
    rcases get_snoc hq with hq | ⟨rfl, rfl⟩
    · exact .inl (h.use q r j hq hj hj0 hj1)
    · refine .inr ⟨rfl, ?_⟩
      rcases hj with hj | hj
      · exact .inl (by rw [hj]; exact ⟨hj0, hj1, rfl⟩)
      · exact .inr (by rw [hj]; exact ⟨hj0, hj1, rfl⟩)
  · exact fun j => (c1 j).trans (h.down j)
  · exact fun w hk hwv => c2 w (h.vl ▸ hk) (h.best w hk hwv)
  · intro r hr
    by_cases hin : (0 ≤ r.from_ ∧ r.from_ < (n : Int)) ∨ (0 ≤ r.also ∧ r.also < (n : Int))
    · exact .inl hin
    · refine .inr ?_
      have e : rval r (v.set b[i].to_.toNat (gi v b[i].to_ &&& rval b[i] v)) = rval r v := rval_const (by simp) (by rw [List.length_set, h.vl]; exact hin)
      show sub _ _
      rw [e]
      rcases List.mem_append.1 hr with hr | hr
      · exact (c1 r.to_).trans ((h.hold r hr).resolve_left hin)
      · rw [List.mem_singleton] at hr
        subst hr
        have hcast : ((b[i].to_.toNat : Nat) : Int) = b[i].to_ := by omega
        have hg := gi_set v _ (gi v b[i].to_ &&& rval b[i] v) hlt b[i].to_
        rw [hg, hcast, if_pos rfl]
        exact and_sub_r _ _
theorem l5_eq (n : Nat) (hn : n ≤ 65536) (x1 : List (List Int)) (b : List flow_Rule) (hb : b.length ≤ 65536) (v0 : List W32) : ∀ (m i : Nat) (v : List W32) (us : List (List Int)) (l : List Int) (tb : List Bool) (rs : List flow_Rule), i + m = b.length → First n b v0 v us l tb rs i →
    ∃ v' us' l' tb' rs', flow_solver_solve_l5 v x1 us l tb rs b b (b.length : Int) (i : Int) = some (v', us', l', tb', rs') ∧ First n b v0 v' us' l' tb' rs' b.length
  | 0, i, v, us, l, tb, rs, h, hf => by
    rw [flow_solver_solve_l5, if_neg (by simp only [decide_eq_true_eq]; omega)]
    have : i = b.length := by omega
    subst this
    exact ⟨v, us, l, tb, rs, rfl, hf⟩
  | m + 1, i, v, us, l, tb, rs, h, hf => by
    have hi : iAdd (i : Int) 1 = ((i + 1 : Nat) : Int) := by rw [iAdd_eq (by omega) (by omega)]; omega
    have hlt : i < b.length := by omega
    rw [flow_solver_solve_l5, if_pos (decide_eq_true (by omega)), if_pos (decide_eq_true (by omega)), if_pos (decide_eq_true (by omega)), hi]
    have e : List.getD b (Int.toNat (i : Int)) d_flow_Rule = b[i] := by simp [List.getD, hlt]
    rw [e]
    by_cases h0 : b[i].to_ < 0
    · rw [if_pos (decide_eq_true h0)]
      exact l5_eq n hn x1 b hb v0 m (i + 1) v us l tb rs (by omega) (hf.next hlt (by omega))
    · rw [if_neg (by simpa using h0)]
      by_cases h1 : b[i].to_ ≥ (v.length : Int)
      · rw [if_pos (decide_eq_true h1)]
        exact l5_eq n hn x1 b hb v0 m (i + 1) v us l tb rs (by omega) (hf.next hlt (by rw [hf.vl] at h1; omega))
      · rw [if_neg (by simpa using h1)]
        have h2 := l9_eq v x1 l tb rs [b[i].from_, b[i].also] b b[i].to_ b[i].from_ b[i].also b[i].keep b[i].if_ b[i].then_ b (b.length : Int) (i : Int) (by simp) 2 0 us rfl (by rw [hf.ul, hf.vl]) (fun j => by have := hf.un j; omega)
        rw [show ((0 : Nat) : Int) = 0 from rfl] at h2
        rw [h2]
        simp only [bind, Option.bind_some, List.drop_zero, List.foldl_cons, List.foldl_nil]
        rw [if_pos (Nat.ble_eq_true_of_le (by have := hf.rl; simp only [List.length_singleton, reach]; omega))]
        have g0 : 0 ≤ b[i].to_ := by omega
        have g1 : b[i].to_ < (v.length : Int) := by omega
        have g2 : b[i].to_ < (n : Int) := by rw [← hf.vl]; exact g1
        rw [apply_eq v _ b b[i] g0 g1, hf.vl]
        simp only [Option.bind_some]
        by_cases hc : (gi v b[i].to_ &&& rval b[i] v) = gi v b[i].to_
        · rw [if_neg (by simpa using hc)]
          exact l5_eq n hn x1 b hb v0 m (i + 1) _ _ l tb _ (by omega) (hf.rule hlt g0 g2 hf.wk)
        · rw [if_pos (by simpa using hc)]
          obtain ⟨l1, tb1, a1, a2, a3, a4⟩ := add_eq hn hf.wk g0 g2
          rw [a1]
          simp only [Option.bind_some]
          exact l5_eq n hn x1 b hb v0 m (i + 1) _ _ l1 tb1 _ (by omega) (hf.rule hlt g0 g2 a2)
theorem getD_rep (n : Nat) (i0 : Nat) : (List.replicate n ([] : List Int)).getD i0 [] = [] := by
  simp only [List.getD, List.getElem?_replicate]
  split <;> rfl
theorem First.start (v0 : List W32) (b : List flow_Rule) : First v0.length b v0 v0 (List.replicate v0.length []) [] (List.replicate v0.length false) [] 0 where
  vl := rfl
  ul := by simp
  wk := ⟨by simp, by simp, by simp, fun i hi => by simp [List.getD, List.getElem?_replicate, hi]⟩
  isr := fun r => by simp
  rl := Nat.le_refl _
  isu := fun i0 k hk => by rw [getD_rep] at hk; cases hk
  un := fun i0 => by rw [getD_rep]; simp
  use := fun q r j hq => by simp at hq
  down := fun j => sub.refl _
  best := fun w _ h => h
  hold := fun r hr => by cases hr
theorem solve_eq (v0 : List W32) (x1 : List (List Int)) (b : List flow_Rule) (hv : v0.length ≤ 65536) (hb : b.length ≤ 65536) : ∃ v us, flow_solver_solve v0 x1 b = some (v, us) ∧ Gfp b v0 v := by
  unfold flow_solver_solve
  rw [if_pos (decide_eq_true (by omega)), if_pos (decide_eq_true (by simp only [reach]; omega)), if_pos (decide_eq_true (by simp only [reach]; omega))]
  rw [show Int.toNat ((v0.length : Nat) : Int) = v0.length by omega]
  obtain ⟨v, us, l, tb, rs, h1, hf⟩ := l5_eq v0.length hv x1 b hb v0 b.length 0 v0 _ _ _ _ (by omega) (First.start v0 b)
  rw [show ((0 : Nat) : Int) = 0 from rfl] at h1
  rw [h1]
  simp only [bind, Option.bind_some]
  obtain ⟨l', tb', h2, h3, h4⟩ := l19_eq v0.length hv v x1 us rs b v0.length 0 l tb (by omega) hf.wk
  rw [show ((0 : Nat) : Int) = 0 from rfl] at h2
  rw [hf.vl, h2]
  simp only [Option.bind_some]
  obtain ⟨v', q1, q2, q3, q4, q5⟩ := l23_eq v0.length hv x1 us rs b (fun r hr => ((hf.isr r).1 hr).2) hf.ul hf.isu (fun i0 => by have := hf.un i0; omega) hf.use _ v l' tb' (Nat.le_refl _) hf.vl h3 (fun r hr => by
    rcases hf.hold r hr with (h | h) | h
    · exact .inr (.inl ((h4 _).2 (.inr (by omega))))
    · exact .inr (.inr ((h4 _).2 (.inr (by omega))))
    · exact .inl h)
  rw [q1]
  refine ⟨v', us, rfl, q2, fun j => (q3 j).trans (hf.down j), fun w hk hwv => q4 w (fun r hr => hk r (List.mem_of_mem_take ((hf.isr r).1 hr).1)) (hf.best w hk hwv), fun r hr a0 a1 => ?_⟩
  exact q5 r ((hf.isr r).2 ⟨by rw [List.take_length]; exact hr, a0, a1⟩)
theorem greatest_eq (n : Int) (top : W32) (b : List flow_Rule) (hb : b.length ≤ 65536) : ∃ v, flow_Greatest n top b = some v ∧ Gfp b (if 0 ≤ n ∧ n ≤ 65536 then List.replicate n.toNat top else []) v := by
  unfold flow_Greatest
  rw [start_eq]
  simp only [bind, Option.bind_some]
  obtain ⟨v, us, h1, h2⟩ := solve_eq (if 0 ≤ n ∧ n ≤ 65536 then List.replicate n.toNat top else []) [] b (by split <;> simp; omega) hb
  rw [h1]
  exact ⟨v, rfl, h2⟩
end Go.Bm.GoYtldkmmnffjdliaa
