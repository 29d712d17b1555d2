/- Laws of what the claim reaches. -/
import Derived.Test.YtdifolgbppffpaaDoorDnMa
namespace Go.Bm.GoYtdifolgbppffpaaDoor
set_option autoImplicit false
set_option linter.unusedVariables false
set_option linter.unusedSimpArgs false
set_option maxRecDepth 100000
theorem cnested_eq (l : List api_Node) (locks : List W32) (h0 : 0 < l.length) (hll : l.length ≤ 65536) (hsr : ∀ i, i < l.length → ∀ y ∈ succ (List.getD l i d_api_Node), 0 ≤ y ∧ y < (l.length : Int)) : ∃ b out, class_Nested l locks = some (b, out) ∧ out.length = l.length ∧ (b = true → Lab l locks (fun i => List.getD out i 0#32)) ∧ ∀ T, Lab l locks T → b = true ∧ ∀ i, i < l.length → List.getD out i 0#32 = T i := by
  unfold class_Nested
  rw [if_pos (decide_eq_true (by omega)), if_pos (decide_eq_true (by simp only [reach]; omega)), if_pos (decide_eq_true (by simp only [reach]; omega)), if_neg (eqF (by omega)), Int.toNat_natCast, if_pos (decide_eq_true (by rw [List.length_replicate]; omega))]
  have hr0 : ∀ i, List.getD (List.replicate l.length (0#32 : W32)) i 0#32 = 0#32 := fun i => by
    rcases Nat.lt_or_ge i l.length with h | h
    · rw [gdE _ _ _ (by rw [List.length_replicate]; exact h)]; simp
    · simp [List.getD, h]
  have hm0 : ∀ y, Sn (List.set (List.replicate l.length false) 0 true) y ↔ y = 0 := fun y => by
    rw [Sn_set (by rw [List.length_replicate]; exact h0)]
    exact ⟨fun h => h.elim id fun h => absurd h (sn_replicate _ _), .inl⟩
  have S : Srch l locks (List.replicate l.length 0#32) (List.set (List.replicate l.length false) 0 true) [0] true := by
    refine ⟨by simp, by simp, fun y hy => ⟨0, by rw [List.mem_singleton.1 hy]; rfl, h0, (hm0 0).2 rfl⟩, (hm0 0).2 rfl, hr0 0, fun i hi => by rw [(hm0 i).1 hi]; exact .start, fun T hL => ⟨rfl, fun i hi => ?_⟩⟩
    rw [(hm0 i).1 hi, hr0]
    exact hL.zero.symm
  have hc := List.count_le_length (a := false) (l := List.set (List.replicate l.length false) 0 true)
  rw [List.length_set, List.length_replicate] at hc
  obtain ⟨out, met, ok, q1, q2, q3⟩ := nest_l8 l locks hll hsr _ _ _ _ _ (Nat.le_refl _) (by rw [List.length_singleton]; omega) S (fun i hi hn => absurd (by rw [(hm0 i).1 hi]; simp) hn)
  have hml := q2.ml
  obtain ⟨b, b1, b2⟩ := nest_l24 out met (by omega) met.length 0 ok (Nat.zero_add _)
  rw [show ((0 : Nat) : Int) = 0 from rfl] at b1
  rw [bind_some q1]
  simp only []
  rw [bind_some b1]
  refine ⟨b, out, rfl, q2.ol, fun hb => ?_, fun T hL => ?_⟩
  · obtain ⟨hk, hall⟩ := b2.1 hb
    have hmet : ∀ i, i < l.length → Sn met i := fun i hi => hall i (Nat.zero_le _) (by omega)
    exact ⟨q2.oz, fun i hi => q2.go i (hmet i hi), fun i hi => ((q3 i (hmet i hi)).f hk).1, fun i y hi hy => ((q3 i (hmet i hi)).f hk).2 y hy⟩
  · have hgo : ∀ i, Go1 l i → Sn met i := fun i hi => by
      induction hi with
      | start => exact q2.z
      | on i y _ _ hy ih => exact (q3 i ih).s y hy
    have hk := (q2.lab T hL).1
    refine ⟨b2.2 ⟨hk, fun i _ hi => hgo i (hL.all i (by omega))⟩, fun i hi => (q2.lab T hL).2 i (hgo i (hL.all i hi))⟩
theorem tbh_bit (x : api_Node) (t : W32) (i : Nat) (hi : i < 32) : (tbh x t).getLsbD i = true ↔ if x.kind = 3 then t.getLsbD i = true ∨ x.arg = (i : Int) else if x.kind = 4 then t.getLsbD i = true ∧ x.arg ≠ (i : Int) else t.getLsbD i = true := by
  unfold tbh
  by_cases k3 : x.kind = 3
  · rw [if_pos k3, if_pos k3, BitVec.getLsbD_or, Bool.or_eq_true, one_bit]
    exact ⟨fun h => h.imp id fun h => h.1, fun h => h.imp id fun h => ⟨h, hi⟩⟩
  · rw [if_neg k3, if_neg k3]
    by_cases k4 : x.kind = 4
    · rw [if_pos k4, if_pos k4, BitVec.getLsbD_and, Bool.and_eq_true, BitVec.getLsbD_not]
      have := one_bit x.arg i
      cases e : (one x.arg).getLsbD i with
      | true =>
        have := (this.1 e).1
        simp [this]
      | false =>
        have hne : x.arg ≠ (i : Int) := fun h => by
          rw [this.2 ⟨h, hi⟩] at e; cases e
        simp [hi, hne]
    · rw [if_neg k4, if_neg k4]
theorem rb_l3 (x : api_Node) (t : W32) : ∀ (m i : Nat) (s : List Int), i + m = 32 → s.length ≤ i → ∃ u, alibiref25_behind_l3 s x.kind x.arg x.next x.alt t (i : Int) = some (s ++ u) ∧ Rises i u ∧ ∀ b : Nat, (b : Int) ∈ u ↔ i ≤ b ∧ b < 32 ∧ (tbh x t).getLsbD b = true
  | 0, i, s, h, hs => by
    rw [alibiref25_behind_l3, if_neg (by simp only [decide_eq_true_eq]; omega)]
    exact ⟨[], by simp, trivial, fun b => by simp; omega⟩
  | m + 1, i, s, h, hs => by
    have hb := tbh_bit x t i (by omega)
    have yes : (tbh x t).getLsbD i = true → ∃ u, (if (Nat.ble ((List.length s + List.length ([(i : Int)])) * 8) reach) = true then alibiref25_behind_l3 (s ++ [(i : Int)]) x.kind x.arg x.next x.alt t ((i + 1 : Nat) : Int) else none) = some (s ++ u) ∧ Rises i u ∧ ∀ b : Nat, (b : Int) ∈ u ↔ i ≤ b ∧ b < 32 ∧ (tbh x t).getLsbD b = true := fun c => by
      rw [if_pos (Nat.ble_eq_true_of_le (by simp only [List.length_singleton, reach]; omega))]
      obtain ⟨u, q1, q2, q3⟩ := rb_l3 x t m (i + 1) (s ++ [(i : Int)]) (by omega) (by simp; omega)
      refine ⟨(i : Int) :: u, by rw [q1]; simp, ⟨Int.le_refl _, by omega, by rw [Int.toNat_natCast]; exact q2⟩, fun b => ?_⟩
      rw [List.mem_cons, q3]
      constructor
      · rintro (h1 | ⟨h1, h2⟩)
        · have : b = i := by omega
          subst this
          exact ⟨Nat.le_refl _, by omega, c⟩
        · exact ⟨by omega, h2⟩
      · rintro ⟨h1, h2⟩
        rcases Nat.eq_or_lt_of_le h1 with rfl | h4
        · exact .inl rfl
        · exact .inr ⟨h4, h2⟩
    have no : ¬ (tbh x t).getLsbD i = true → ∃ u, alibiref25_behind_l3 s x.kind x.arg x.next x.alt t ((i + 1 : Nat) : Int) = some (s ++ u) ∧ Rises i u ∧ ∀ b : Nat, (b : Int) ∈ u ↔ i ≤ b ∧ b < 32 ∧ (tbh x t).getLsbD b = true := fun c => by
      obtain ⟨u, q1, q2, q3⟩ := rb_l3 x t m (i + 1) s (by omega) (by omega)
      refine ⟨u, q1, q2.mono (by omega), fun b => ?_⟩
      rw [q3]
      constructor
      · rintro ⟨h1, h2⟩; exact ⟨by omega, h2⟩
      · rintro ⟨h1, h2, h3⟩
        rcases Nat.eq_or_lt_of_le h1 with rfl | h4
        · exact absurd h3 c
        · exact ⟨h4, h2, h3⟩
    rw [alibiref25_behind_l3, if_pos (decide_eq_true (by omega)), bind_some (refhas_eq t (i : Int)), if_pos (show 0 ≤ (i : Int) ∧ (i : Int) < 32 by omega), Int.toNat_natCast, inc i (by omega)]
    by_cases k3 : x.kind = 3
    · have k4 : ¬ x.kind = 4 := by omega
      rw [if_pos k3] at hb
      rw [if_pos (eqT k3)]
      by_cases e : x.arg = (i : Int)
      · rw [if_pos (eqT e), if_neg (eqF k4)]
        exact yes (hb.2 (.inr e))
      · rw [if_neg (eqF e), if_neg (eqF k4)]
        by_cases c : t.getLsbD i = true
        · rw [if_pos c]
          exact yes (hb.2 (.inl c))
        · rw [if_neg c]
          exact no fun h => (hb.1 h).elim c e
    · rw [if_neg k3] at hb
      rw [if_neg (eqF k3)]
      by_cases k4 : x.kind = 4
      · rw [if_pos k4] at hb
        rw [if_pos (eqT k4)]
        by_cases e : x.arg = (i : Int)
        · rw [if_pos (eqT e)]
          exact no fun h => (hb.1 h).2 e
        · rw [if_neg (eqF e)]
          by_cases c : t.getLsbD i = true
          · rw [if_pos c]
            exact yes (hb.2 ⟨c, e⟩)
          · rw [if_neg c]
            exact no fun h => c (hb.1 h).1
      · rw [if_neg k4] at hb
        rw [if_neg (eqF k4)]
        by_cases c : t.getLsbD i = true
        · rw [if_pos c]
          exact yes (hb.2 c)
        · rw [if_neg c]
          exact no fun h => c (hb.1 h)
theorem rbehind_eq (x : api_Node) (t : W32) : alibiref25_behind x t = some (tbh x t) := by
  obtain ⟨u, u1, u2, u3⟩ := rb_l3 x t 32 0 [] rfl (Nat.le_refl _)
  rw [show ((0 : Nat) : Int) = 0 from rfl, List.nil_append] at u1
  obtain ⟨y, y1, y2⟩ := mask_eq u (by have := u2.length_le (by omega); omega) u2
  have e : y = tbh x t := BitVec.eq_of_getLsbD_eq fun i hi => by
    rw [Bool.eq_iff_iff, y2, u3]
    exact ⟨fun h => h.2.2, fun h => ⟨Nat.zero_le _, hi, h⟩⟩
  unfold alibiref25_behind alibiref25_set
  rw [bind_some u1, bind_some y1, e]
  rfl
/-- What the rounds know. -/
structure RS (l : List api_Node) (locks : List W32) (out : List W32) (met : List Bool) : Prop where
  ol : out.length = l.length
  ml : met.length = l.length
  z : Sn met 0
  oz : List.getD out 0 0#32 = 0#32
  go : ∀ i, Sn met i → Go1 l i
  lab : ∀ T, Lab l locks T → ∀ i, Sn met i → List.getD out i 0#32 = T i
def On1 (l : List api_Node) (x y : Nat) : Prop := x < l.length ∧ (y : Int) ∈ succ (List.getD l x d_api_Node)
theorem rn_l13 (l : List api_Node) (locks : List W32) (i : Nat) (hi : i < l.length) (hll : l.length ≤ 65536) (hj : ∀ y ∈ succ (List.getD l i d_api_Node), 0 ≤ y ∧ y < (l.length : Int)) (x3 x4 x5 : Int) (x6 : FS) (x8 : Int) : ∀ (m k : Nat) (out : List W32) (met : List Bool), k + m = (succ (List.getD l i d_api_Node)).length → RS l locks out met → ∃ out' met', alibiref25_Nested_l13 out met (succ (List.getD l i d_api_Node)) x3 x4 x5 x6 l x8 (i : Int) (k : Int) = some (out', met') ∧ RS l locks out' met' ∧ (∀ y, Sn met y → Sn met' y) ∧ (∀ y, Sn met' y → Sn met y ∨ (Sn met i ∧ On1 l i y)) ∧ (Sn met i → ∀ j, k ≤ j → ∀ (h : j < (succ (List.getD l i d_api_Node)).length), ∃ b : Nat, (succ (List.getD l i d_api_Node))[j] = (b : Int) ∧ Sn met' b)
  | 0, k, out, met, h, hs => by
    rw [alibiref25_Nested_l13, if_neg (by simp only [decide_eq_true_eq]; omega)]
    exact ⟨out, met, rfl, hs, fun y h => h, fun y h => .inl h, fun _ j h1 h2 => by omega⟩
  | m + 1, k, out, met, h, hs => by
    have hlt : k < (succ (List.getD l i d_api_Node)).length := by omega
    have hg : List.getD (succ (List.getD l i d_api_Node)) k 0 = (succ (List.getD l i d_api_Node))[k] := gdE _ _ _ hlt
    have hmem := List.getElem_mem hlt
    have hr := hj _ hmem
    obtain ⟨b, hb⟩ : ∃ b : Nat, (succ (List.getD l i d_api_Node))[k] = (b : Int) := ⟨((succ (List.getD l i d_api_Node))[k]).toNat, by omega⟩
    have hbm : (b : Int) ∈ succ (List.getD l i d_api_Node) := by rw [← hb]; exact hmem
    have hol := hs.ol
    have hml := hs.ml
    have sl := succ_len (List.getD l i d_api_Node)
    rw [hb] at hr hg
    rw [alibiref25_Nested_l13, if_pos (decide_eq_true (by omega)), if_pos (decide_eq_true (by omega)), if_pos (decide_eq_true (by omega)), Int.toNat_natCast i]
    by_cases hmi : Sn met i
    · rw [if_pos (show List.getD met i false = true from hmi), if_pos (decide_eq_true (by omega)), if_pos (decide_eq_true (by omega)), Int.toNat_natCast k, hg, if_pos (decide_eq_true (by omega)), if_pos (decide_eq_true (by omega)), Int.toNat_natCast b, inc k (by omega)]
      have hgi := hs.go i hmi
      by_cases hm : Sn met b
      · have hm' : List.getD met b false = true := hm
        rw [hm', if_neg (by decide)]
        obtain ⟨out', met', q1, q2, q3, q4, q5⟩ := rn_l13 l locks i hi hll hj x3 x4 x5 x6 x8 m (k + 1) out met (by omega) hs
        refine ⟨out', met', q1, q2, q3, q4, fun hh j h3 h4 => ?_⟩
        rcases Nat.eq_or_lt_of_le h3 with rfl | h5
        · exact ⟨b, hb, q3 b hm⟩
        · exact q5 hh j h5 h4
      · have hm' : List.getD met b false = false := by rw [← Bool.not_eq_true]; exact hm
        have hbl : b < met.length := by omega
        have hbo : b < out.length := by omega
        have hib : i ≠ b := fun e => hm (by rw [← e]; exact hmi)
        have hb0 : (0 : Nat) ≠ b := fun e => hm (by rw [← e]; exact hs.z)
        rw [hm', if_pos (by decide), if_pos (decide_eq_true (by omega)), if_pos (decide_eq_true (by omega)), bind_some (rbehind_eq _ _), if_pos (decide_eq_true (by omega))]
        have S : RS l locks (out.set b (tbh (List.getD l i d_api_Node) (List.getD out i 0#32))) (met.set b true) := by
          refine ⟨by rw [List.length_set]; exact hol, by rw [List.length_set]; exact hml, (Sn_set hbl).2 (.inr hs.z), by rw [getDs _ _ _ _ _ hbo, if_neg hb0]; exact hs.oz, fun y hy => ?_, fun T hL y hy => ?_⟩
          · rcases (Sn_set hbl).1 hy with h1 | h1
            · rw [h1]; exact .on i b hgi hi hbm
            · exact hs.go y h1
          · rw [getDs _ _ _ _ _ hbo]
            by_cases e : y = b
            · rw [if_pos e, e, hs.lab T hL i hmi]
              exact (hL.on i b hi hbm).symm
            · rw [if_neg e]
              rcases (Sn_set hbl).1 hy with h1 | h1
              · exact absurd h1 e
              · exact hs.lab T hL y h1
        obtain ⟨out', met', q1, q2, q3, q4, q5⟩ := rn_l13 l locks i hi hll hj x3 x4 x5 x6 x8 m (k + 1) _ _ (by omega) S
        refine ⟨out', met', q1, q2, fun y hy => q3 y ((Sn_set hbl).2 (.inr hy)), fun y hy => ?_, fun _ j h3 h4 => ?_⟩
        · rcases q4 y hy with h1 | ⟨_, h1⟩
          · rcases (Sn_set hbl).1 h1 with h2 | h2
            · exact .inr ⟨hmi, hi, by rw [h2]; exact hbm⟩
            · exact .inl h2
          · exact .inr ⟨hmi, h1⟩
        · rcases Nat.eq_or_lt_of_le h3 with rfl | h5
          · exact ⟨b, hb, q3 b ((Sn_set hbl).2 (.inl rfl))⟩
          · exact q5 ((Sn_set hbl).2 (.inr hmi)) j h5 h4
    · rw [if_neg (show ¬ List.getD met i false = true from hmi)]
      exact ⟨out, met, rfl, hs, fun y h => h, fun y h => .inl h, fun hh => absurd hh hmi⟩
theorem rn_l9 (l : List api_Node) (locks : List W32) (hll : l.length ≤ 65536) (hsr : ∀ i, i < l.length → ∀ y ∈ succ (List.getD l i d_api_Node), 0 ≤ y ∧ y < (l.length : Int)) (x2 x3 x4 : Int) (x5 : FS) (x7 : Int) : ∀ (m f : Nat) (out : List W32) (met : List Bool), f + m = l.length → RS l locks out met → ∃ out' met', alibiref25_Nested_l9 out met x2 x3 x4 x5 l x7 (f : Int) = some (out', met') ∧ RS l locks out' met' ∧ (∀ y, Sn met y → Sn met' y) ∧ (∀ Q : Nat → Prop, (∀ x y, Q x → On1 l x y → Q y) → (∀ y, Sn met y → Q y) → ∀ y, Sn met' y → Q y) ∧ ∀ x y, f ≤ x → Sn met x → On1 l x y → Sn met' y
  | 0, f, out, met, h, hs => by
    rw [alibiref25_Nested_l9, if_neg (by simp only [decide_eq_true_eq]; omega)]
    exact ⟨out, met, rfl, hs, fun y h => h, fun Q _ h => h, fun x y hx hsx e => by have := e.1; omega⟩
  | m + 1, f, out, met, h, hs => by
    obtain ⟨o1, m1, g1, g2, g3, g4, g5⟩ := rn_l13 l locks f (by omega) hll (hsr f (by omega)) x2 x3 x4 x5 x7 (succ (List.getD l f d_api_Node)).length 0 out met (Nat.zero_add _) hs
    rw [show ((0 : Nat) : Int) = 0 from rfl] at g1
    rw [alibiref25_Nested_l9, if_pos (decide_eq_true (by omega)), if_pos (decide_eq_true (by omega)), if_pos (decide_eq_true (by omega)), Int.toNat_natCast, bind_some (refsucc_eq _), bind_some g1, inc f (by omega)]
    obtain ⟨o2, m2, k1, k2, k3, k4, k5⟩ := rn_l9 l locks hll hsr x2 x3 x4 x5 x7 m (f + 1) o1 m1 (by omega) g2
    refine ⟨o2, m2, k1, k2, fun y hy => k3 y (g3 y hy), fun Q hQ hsQ => k4 Q hQ fun y hy => ?_, fun x y hx hsx e => ?_⟩
    · rcases g4 y hy with h1 | ⟨h1, h2⟩
      · exact hsQ y h1
      · exact hQ f y (hsQ f h1) h2
    · rcases Nat.eq_or_lt_of_le hx with rfl | hx
      · obtain ⟨j, hj, e2⟩ := List.mem_iff_getElem.1 e.2
        obtain ⟨b, b1, b2⟩ := g5 hsx j (Nat.zero_le _) hj
        have : y = b := by rw [e2] at b1; exact Int.ofNat.inj b1
        subst this
        exact k3 _ b2
      · exact k5 x y hx (g3 x hsx) e
def ClosedN (l : List api_Node) (s : List Bool) : Prop := ∀ x, Sn s x → ∀ y, On1 l x y → Sn s y
theorem rn_l6 (l : List api_Node) (locks : List W32) (hll : l.length ≤ 65536) (hsr : ∀ i, i < l.length → ∀ y ∈ succ (List.getD l i d_api_Node), 0 ≤ y ∧ y < (l.length : Int)) (x2 x3 x4 : Int) (x5 : FS) : ∀ (m r : Nat) (out : List W32) (met : List Bool), r + m = l.length → RS l locks out met → ∃ out' met', alibiref25_Nested_l6 out met x2 x3 x4 x5 l (r : Int) = some (out', met') ∧ RS l locks out' met' ∧ (∀ y, Sn met y → Sn met' y) ∧ (∀ Q : Nat → Prop, (∀ x y, Q x → On1 l x y → Q y) → (∀ y, Sn met y → Q y) → ∀ y, Sn met' y → Q y) ∧ (ClosedN l met' ∨ met'.count false + m ≤ met.count false)
  | 0, r, out, met, h, hs => by
    rw [alibiref25_Nested_l6, if_neg (by simp only [decide_eq_true_eq]; omega)]
    exact ⟨out, met, rfl, hs, fun y h => h, fun Q _ h => h, .inr (by omega)⟩
  | m + 1, r, out, met, h, hs => by
    obtain ⟨o1, m1, g1, g2, g3, g4, g5⟩ := rn_l9 l locks hll hsr x2 x3 x4 x5 (r : Int) l.length 0 out met (Nat.zero_add _) hs
    rw [show ((0 : Nat) : Int) = 0 from rfl] at g1
    rw [alibiref25_Nested_l6, if_pos (decide_eq_true (by omega)), bind_some g1, inc r (by omega)]
    obtain ⟨o2, m2, k1, k2, k3, k4, k5⟩ := rn_l6 l locks hll hsr x2 x3 x4 x5 m (r + 1) o1 m1 (by omega) g2
    refine ⟨o2, m2, k1, k2, fun y hy => k3 y (g3 y hy), fun Q hQ hsQ => k4 Q hQ (g4 Q hQ hsQ), ?_⟩
    by_cases hcl : ClosedN l met
    · left
      have e1 : ∀ y, Sn m1 y → Sn met y := g4 (Sn met) (fun x y hx e => hcl x hx y e) fun y h => h
      have e2 : ∀ y, Sn m2 y → Sn met y := fun y hy => e1 y (k4 (Sn m1) (fun x y hx e => g3 y (hcl x (e1 x hx) y e)) (fun y h => h) y hy)
      exact fun x hx y e => k3 y (g3 y (hcl x (e2 x hx) y e))
    · rcases k5 with k5 | k5
      · exact .inl k5
      · right
        have : ∃ x y, Sn met x ∧ On1 l x y ∧ ¬ Sn met y := by
          apply Classical.byContradiction
          intro hno
          exact hcl fun x hx y e => Classical.byContradiction fun h => hno ⟨x, y, hx, e, h⟩
        obtain ⟨x, y, h1, h2, h3⟩ := this
        have hl1 := hs.ml
        have hl2 := g2.ml
        have := count_lt (by omega) g3 h3 (g5 x y (Nat.zero_le _) h1 h2)
        omega
theorem and0 {x y : W32} : (x &&& y == 0#32) = true ↔ ∀ b, x.getLsbD b = true → ¬ y.getLsbD b = true := by
  rw [beq_iff_eq]
  constructor
  · intro h b hx hy
    have : (x &&& y).getLsbD b = true := by rw [BitVec.getLsbD_and, hx, hy]; rfl
    rw [h] at this
    simp at this
  · intro h
    refine BitVec.eq_of_getLsbD_eq fun i _ => ?_
    rw [BitVec.getLsbD_and]
    cases e : x.getLsbD i with
    | false => simp
    | true =>
      have := h i e
      rw [Bool.not_eq_true] at this
      rw [this]
      simp
theorem rn_l34 (x : api_Node) (l : List api_Node) (i : Nat) (hi : i < l.length) (hj : ∀ y ∈ succ x, 0 ≤ y ∧ y < (l.length : Int)) (out : List W32) (hol : out.length = l.length) (met : List Bool) (x3 x4 x5 : Int) (x6 : FS) : ∀ (m k : Nat), k + m = (succ x).length → ∃ b : Bool, alibiref25_Nested_l34 out met (succ x) x3 x4 x5 x6 x.kind x.arg x.next x.alt l (i : Int) (k : Int) = some (if b = true then .x1 else .x0 0) ∧ (b = true ↔ ∀ j, k ≤ j → ∀ (h : j < (succ x).length), List.getD out ((succ x)[j]).toNat 0#32 = tbh x (List.getD out i 0#32))
  | 0, k, h => by
    rw [alibiref25_Nested_l34, if_neg (by simp only [decide_eq_true_eq]; omega)]
    exact ⟨true, rfl, ⟨fun _ j h1 h2 => by omega, fun _ => rfl⟩⟩
  | m + 1, k, h => by
    have hlt : k < (succ x).length := by omega
    have hg : List.getD (succ x) k 0 = (succ x)[k] := gdE _ _ _ hlt
    have hr := hj _ (List.getElem_mem hlt)
    have sl := succ_len x
    rw [alibiref25_Nested_l34, if_pos (decide_eq_true (by omega)), if_pos (decide_eq_true (by omega)), if_pos (decide_eq_true (by omega)), Int.toNat_natCast k, hg, if_pos (decide_eq_true (by omega)), if_pos (decide_eq_true (by omega)), if_pos (decide_eq_true (by omega)), if_pos (decide_eq_true (by omega)), Int.toNat_natCast i, bind_some (show alibiref25_behind (api_Node.mk x.kind x.arg x.next x.alt) _ = _ from rbehind_eq x _), inc k (by omega)]
    by_cases e : List.getD out ((succ x)[k]).toNat 0#32 = tbh x (List.getD out i 0#32)
    · rw [if_neg (show ¬ (List.getD out ((succ x)[k]).toNat 0#32 != tbh x (List.getD out i 0#32)) = true by rw [bne_iff_ne]; exact fun hn => hn e)]
      obtain ⟨b, b1, b2⟩ := rn_l34 x l i hi hj out hol met x3 x4 x5 x6 m (k + 1) (by omega)
      refine ⟨b, b1, ?_⟩
      rw [b2]
      constructor
      · intro hh j h1 h2
        rcases Nat.eq_or_lt_of_le h1 with rfl | h3
        · exact e
        · exact hh j h3 h2
      · exact fun hh j h1 h2 => hh j (by omega) h2
    · rw [if_pos (show (List.getD out ((succ x)[k]).toNat 0#32 != tbh x (List.getD out i 0#32)) = true by rw [bne_iff_ne]; exact e)]
      exact ⟨false, rfl, ⟨(fun h => by cases h), fun hh => absurd (hh k (Nat.le_refl _) hlt) e⟩⟩
theorem rn_l28 (u : List Int) (hu : Rises 0 u) (l : List api_Node) (i : Nat) (hi : i < l.length) (out : List W32) (hol : out.length = l.length) (met : List Bool) (x3 x4 x5 : Int) (x6 : FS) (x7 x8 x9 x10 : Int) : ∀ (m k : Nat), k + m = u.length → ∃ b : Bool, alibiref25_Nested_l28 out met u x3 x4 x5 x6 x7 x8 x9 x10 l (i : Int) (k : Int) = some (if b = true then .x1 else .x0 0) ∧ (b = true ↔ ∀ j, k ≤ j → ∀ (h : j < u.length), ¬ (List.getD out i 0#32).getLsbD (u[j]).toNat = true)
  | 0, k, h => by
    rw [alibiref25_Nested_l28, if_neg (by simp only [decide_eq_true_eq]; omega)]
    exact ⟨true, rfl, ⟨fun _ j h1 h2 => by omega, fun _ => rfl⟩⟩
  | m + 1, k, h => by
    have hlt : k < u.length := by omega
    have hg : List.getD u k 0 = u[k] := gdE _ _ _ hlt
    have hr := hu.nat _ (List.getElem_mem hlt)
    have hul := hu.length_le (by omega)
    rw [alibiref25_Nested_l28, if_pos (decide_eq_true (by omega)), if_pos (decide_eq_true (by omega)), if_pos (decide_eq_true (by omega)), if_pos (decide_eq_true (by omega)), if_pos (decide_eq_true (by omega)), Int.toNat_natCast i, Int.toNat_natCast k, hg, bind_some (refhas_eq _ _), if_pos (show 0 ≤ u[k] ∧ u[k] < 32 by omega), inc k (by omega)]
    by_cases e : (List.getD out i 0#32).getLsbD (u[k]).toNat = true
    · rw [if_pos e]
      exact ⟨false, rfl, ⟨(fun h => by cases h), fun hh => absurd e (hh k (Nat.le_refl _) hlt)⟩⟩
    · rw [if_neg e]
      obtain ⟨b, b1, b2⟩ := rn_l28 u hu l i hi out hol met x3 x4 x5 x6 x7 x8 x9 x10 m (k + 1) (by omega)
      refine ⟨b, b1, ?_⟩
      rw [b2]
      constructor
      · intro hh j h1 h2
        rcases Nat.eq_or_lt_of_le h1 with rfl | h3
        · exact e
        · exact hh j h3 h2
      · exact fun hh j h1 h2 => hh j (by omega) h2
/-- The locks that each function uses. -/
structure Uss (p : api_Program) (locks : List W32) : Prop where
  len : locks.length = p.funcs.length
  use : ∀ g : Nat, g < p.funcs.length → ∃ u, alibiref25_Uses p (g : Int) = some u ∧ Rises 0 u ∧ ∀ b : Nat, (List.getD locks g 0#32).getLsbD b = true ↔ (b : Int) ∈ u
def Chk (l : List api_Node) (locks : List W32) (out : List W32) (met : List Bool) (j : Nat) : Prop := Sn met j ∧ tfine locks (List.getD l j d_api_Node) (List.getD out j 0#32) = true ∧ ∀ q, ∀ (h : q < (succ (List.getD l j d_api_Node)).length), List.getD out ((succ (List.getD l j d_api_Node))[q]).toNat 0#32 = tbh (List.getD l j d_api_Node) (List.getD out j 0#32)
theorem rn_l19 (p : api_Program) (hlk : p.locks ≤ 16) (locks : List W32) (hU : Uss p locks) (l : List api_Node) (hll : l.length ≤ 65536) (hok : ∀ i, i < l.length → NodeOk p (List.getD l i d_api_Node) (l.length : Int)) (out : List W32) (met : List Bool) (hol : out.length = l.length) (hml : met.length = l.length) : ∀ (m i : Nat), i + m = l.length → ∃ b : Bool, alibiref25_Nested_l19 out met p.globals p.locks p.slots p.funcs l (i : Int) = some (if b = true then .x1 else .x0 0) ∧ (b = true ↔ ∀ j, i ≤ j → j < l.length → Chk l locks out met j)
  | 0, i, h => by
    rw [alibiref25_Nested_l19, if_neg (by simp only [decide_eq_true_eq]; omega)]
    exact ⟨true, rfl, ⟨fun _ j h1 h2 => by omega, fun _ => rfl⟩⟩
  | m + 1, i, h => by
    have hi : i < l.length := by omega
    have hoki := hok i hi
    have bad : ¬ Chk l locks out met i → ∃ b : Bool, (some (alibiref25_Nested_l19_R.x0 0) : Option alibiref25_Nested_l19_R) = some (if b = true then .x1 else .x0 0) ∧ (b = true ↔ ∀ j, i ≤ j → j < l.length → Chk l locks out met j) := fun hn => ⟨false, rfl, ⟨(fun h => by cases h), fun hh => absurd (hh i (Nat.le_refl _) hi) hn⟩⟩
    obtain ⟨b0, c1, c2⟩ := rn_l19 p hlk locks hU l hll hok out met hol hml m (i + 1) (by omega)
    rw [alibiref25_Nested_l19, if_pos (decide_eq_true (by omega)), if_pos (decide_eq_true (by omega)), if_pos (decide_eq_true (by omega)), if_pos (decide_eq_true (by omega)), Int.toNat_natCast i, bind_some (refhas_eq _ _), if_pos (decide_eq_true (by omega)), inc i (by omega)]
    by_cases hm : Sn met i
    · have hm' : List.getD met i false = true := hm
      rw [hm', if_neg (show ¬ (!true) = true by decide)]
      have hsr : ∀ y ∈ succ (List.getD l i d_api_Node), 0 ≤ y ∧ y < (l.length : Int) := fun y hy => by have := succ_ok hoki (by omega) y hy; omega
      obtain ⟨b4, d1, d2⟩ := rn_l34 (List.getD l i d_api_Node) l i hi hsr out hol met p.globals p.locks p.slots p.funcs (succ (List.getD l i d_api_Node)).length 0 (Nat.zero_add _)
      rw [show ((0 : Nat) : Int) = 0 from rfl] at d1
      have hchk : Chk l locks out met i ↔ tfine locks (List.getD l i d_api_Node) (List.getD out i 0#32) = true ∧ b4 = true := by
        unfold Chk
        rw [d2]
        exact ⟨fun h => ⟨h.2.1, fun j _ hj => h.2.2 j hj⟩, fun h => ⟨hm, h.1, fun q hq => h.2 q (Nat.zero_le _) hq⟩⟩
      have tail : tfine locks (List.getD l i d_api_Node) (List.getD out i 0#32) = true → ∃ b : Bool, (bind (alibiref05_Succ (List.getD l i d_api_Node)) fun v => bind (alibiref25_Nested_l34 out met v p.globals p.locks p.slots p.funcs (List.getD l i d_api_Node).kind (List.getD l i d_api_Node).arg (List.getD l i d_api_Node).next (List.getD l i d_api_Node).alt l (i : Int) 0) fun q => (match q with | .x0 v => some (.x0 v) | .x1 => alibiref25_Nested_l19 out met p.globals p.locks p.slots p.funcs l ((i + 1 : Nat) : Int))) = some (if b = true then alibiref25_Nested_l19_R.x1 else .x0 0) ∧ (b = true ↔ ∀ j, i ≤ j → j < l.length → Chk l locks out met j) := fun hf => by
        rw [bind_some (refsucc_eq _), bind_some d1]
        cases b4 with
        | false => exact bad fun hc => by cases (hchk.1 hc).2
        | true =>
          simp only [if_true]
          refine ⟨b0, c1, ?_⟩
          rw [c2]
          constructor
          · intro hh j h1 h2
            rcases Nat.eq_or_lt_of_le h1 with rfl | h3
            · exact hchk.2 ⟨hf, rfl⟩
            · exact hh j h3 h2
          · exact fun hh j h1 h2 => hh j (by omega) h2
      have nf : ¬ tfine locks (List.getD l i d_api_Node) (List.getD out i 0#32) = true → ¬ Chk l locks out met i := fun hf hc => hf (hchk.1 hc).1
      have hlock := hoki.lock
      have hcall := hoki.call
      have tf : tfine locks (List.getD l i d_api_Node) (List.getD out i 0#32) = (if (List.getD l i d_api_Node).kind = 3 then ((List.getD out i 0#32) &&& one (List.getD l i d_api_Node).arg) == 0#32 else if (List.getD l i d_api_Node).kind = 4 then ((List.getD out i 0#32) &&& one (List.getD l i d_api_Node).arg) != 0#32 else if (List.getD l i d_api_Node).kind = 9 then (List.getD out i 0#32) == 0#32 else if (List.getD l i d_api_Node).kind = 7 then (if 0 ≤ (List.getD l i d_api_Node).arg ∧ (List.getD l i d_api_Node).arg < locks.length then ((List.getD out i 0#32) &&& List.getD locks (List.getD l i d_api_Node).arg.toNat 0#32) == 0#32 else false) else true) := rfl
      have hone : (List.getD l i d_api_Node).kind = 3 ∨ (List.getD l i d_api_Node).kind = 4 → ((((List.getD out i 0#32) &&& one (List.getD l i d_api_Node).arg) == 0#32) = true ↔ ¬ (List.getD out i 0#32).getLsbD (List.getD l i d_api_Node).arg.toNat = true) := fun hk => by
        have ha := hlock hk
        rw [and0]
        constructor
        · intro hh hb
          exact hh _ hb ((one_bit _ _).2 ⟨by omega, by omega⟩)
        · intro hh b hb ho
          have := ((one_bit _ _).1 ho).1
          exact hh (by rw [this, Int.toNat_natCast]; exact hb)
      by_cases k3 : (List.getD l i d_api_Node).kind = 3
      · have ha := hlock (.inl k3)
        rw [if_pos (eqT k3), if_pos (show 0 ≤ (List.getD l i d_api_Node).arg ∧ (List.getD l i d_api_Node).arg < 32 by omega)]
        rw [if_pos k3] at tf
        by_cases c : (List.getD out i 0#32).getLsbD (List.getD l i d_api_Node).arg.toNat = true
        · rw [if_pos c]
          exact bad (nf fun hf => (hone (.inl k3)).1 (by rw [← tf]; exact hf) c)
        · rw [if_neg c, if_neg (eqF (by omega)), if_neg (eqF (by omega)), if_neg (eqF (by omega))]
          exact tail (by rw [tf]; exact (hone (.inl k3)).2 c)
      rw [if_neg (eqF k3)]
      rw [if_neg k3] at tf
      by_cases k4 : (List.getD l i d_api_Node).kind = 4
      · have ha := hlock (.inr k4)
        rw [if_pos (eqT k4), if_pos (show 0 ≤ (List.getD l i d_api_Node).arg ∧ (List.getD l i d_api_Node).arg < 32 by omega)]
        rw [if_pos k4] at tf
        cases c : (List.getD out i 0#32).getLsbD (List.getD l i d_api_Node).arg.toNat with
        | false =>
          rw [if_pos (by decide)]
          refine bad (nf fun hf => ?_)
          rw [tf] at hf
          have := (hone (.inr k4)).2 (by rw [c]; decide)
          rw [bne, this] at hf
          cases hf
        | true =>
          rw [if_neg (by decide), if_neg (eqF (by omega)), if_neg (eqF (by omega))]
          refine tail ?_
          rw [tf, bne]
          cases e : ((List.getD out i 0#32) &&& one (List.getD l i d_api_Node).arg) == 0#32 with
          | false => rfl
          | true => exact absurd c ((hone (.inr k4)).1 e)
      rw [if_neg (eqF k4)]
      rw [if_neg k4] at tf
      by_cases k9 : (List.getD l i d_api_Node).kind = 9
      · rw [if_pos (eqT k9)]
        rw [if_pos k9] at tf
        by_cases c : List.getD out i 0#32 = 0#32
        · rw [if_neg (show ¬ (List.getD out i 0#32 != 0#32) = true by rw [bne_iff_ne]; exact fun hn => hn c), if_neg (eqF (by omega))]
          exact tail (by rw [tf, c]; rfl)
        · rw [if_pos (show (List.getD out i 0#32 != 0#32) = true by rw [bne_iff_ne]; exact c)]
          exact bad (nf fun hf => c (by rw [tf] at hf; exact beq_iff_eq.1 hf))
      rw [if_neg (eqF k9)]
      rw [if_neg k9] at tf
      by_cases k7 : (List.getD l i d_api_Node).kind = 7
      · have ha := hcall k7
        rw [if_pos (eqT k7)]
        have hul := hU.len
        rw [if_pos k7, if_pos (show 0 ≤ (List.getD l i d_api_Node).arg ∧ (List.getD l i d_api_Node).arg < (locks.length : Int) by omega)] at tf
        obtain ⟨u, u1, u2, u3⟩ := hU.use (List.getD l i d_api_Node).arg.toNat (by omega)
        rw [show (((List.getD l i d_api_Node).arg.toNat : Nat) : Int) = (List.getD l i d_api_Node).arg by omega] at u1
        obtain ⟨b8, e1, e2⟩ := rn_l28 u u2 l i hi out hol met p.globals p.locks p.slots p.funcs (List.getD l i d_api_Node).kind (List.getD l i d_api_Node).arg (List.getD l i d_api_Node).next (List.getD l i d_api_Node).alt u.length 0 (Nat.zero_add _)
        rw [show ((0 : Nat) : Int) = 0 from rfl] at e1
        have hfi : tfine locks (List.getD l i d_api_Node) (List.getD out i 0#32) = true ↔ b8 = true := by
          rw [tf, and0, e2]
          constructor
          · intro hh j _ hj hb
            have hr := u2.nat _ (List.getElem_mem hj)
            refine hh _ hb ((u3 _).2 ?_)
            rw [show (((u[j]).toNat : Nat) : Int) = u[j] by omega]
            exact List.getElem_mem hj
          · intro hh b hb hl
            obtain ⟨j, hj, e⟩ := List.mem_iff_getElem.1 ((u3 b).1 hl)
            exact hh j (Nat.zero_le _) hj (by rw [e, Int.toNat_natCast]; exact hb)
        rw [bind_some (show alibiref25_Uses (api_Program.mk p.globals p.locks p.slots p.funcs) _ = _ from u1), bind_some e1]
        cases b8 with
        | false => exact bad (nf fun hf => by cases hfi.1 hf)
        | true =>
          simp only [if_true]
          exact tail (hfi.2 rfl)
      · rw [if_neg (eqF k7)]
        rw [if_neg k7] at tf
        exact tail tf
    · have hm' : List.getD met i false = false := by rw [← Bool.not_eq_true]; exact hm
      rw [hm', if_pos (show (!false) = true by decide)]
      exact bad fun hc => hm hc.1
theorem rnested_eq (p : api_Program) (hg : Good p) (locks : List W32) (hU : Uss p locks) (f : Nat) (hf : f < p.funcs.length) : ∃ (is : Int) (out : List W32), alibiref25_Nested p (f : Int) = some (is, out) ∧ (is = 0 ∨ is = 1) ∧ out.length = (List.getD p.funcs f []).length ∧ (is = 1 → Lab (List.getD p.funcs f []) locks (fun i => List.getD out i 0#32)) ∧ ∀ T, Lab (List.getD p.funcs f []) locks T → is = 1 ∧ ∀ i, i < (List.getD p.funcs f []).length → List.getD out i 0#32 = T i := by
  have hll := hg.le f
  have hlk := hg.locks
  have h0 := (hg.len f hf).1
  have hok : ∀ i, i < (List.getD p.funcs f []).length → NodeOk p (List.getD (List.getD p.funcs f []) i d_api_Node) ((List.getD p.funcs f []).length : Int) := fun i hi => hg.node f i hf hi
  have hsr : ∀ i, i < (List.getD p.funcs f []).length → ∀ y ∈ succ (List.getD (List.getD p.funcs f []) i d_api_Node), 0 ≤ y ∧ y < ((List.getD p.funcs f []).length : Int) := fun i hi y hy => by have := succ_ok (hok i hi) (by omega) y hy; omega
  unfold alibiref25_Nested
  rw [if_pos (decide_eq_true (by omega)), if_pos (decide_eq_true (by omega)), Int.toNat_natCast f]
  generalize List.getD p.funcs f [] = l at *
  rw [if_pos (decide_eq_true (by omega)), if_pos (decide_eq_true (by simp only [reach]; omega)), if_pos (decide_eq_true (by simp only [reach]; omega)), Int.toNat_natCast, if_pos (decide_eq_true (by rw [List.length_replicate]; omega))]
  have hr0 : ∀ i, List.getD (List.replicate l.length (0#32 : W32)) i 0#32 = 0#32 := fun i => by
    rcases Nat.lt_or_ge i l.length with h | h
    · rw [gdE _ _ _ (by rw [List.length_replicate]; exact h)]; simp
    · simp [List.getD, h]
  have hm0 : ∀ y, Sn (List.set (List.replicate l.length false) 0 true) y ↔ y = 0 := fun y => by
    rw [Sn_set (by rw [List.length_replicate]; exact h0)]
    exact ⟨fun h => h.elim id fun h => absurd h (sn_replicate _ _), .inl⟩
  have S : RS l locks (List.replicate l.length 0#32) (List.set (List.replicate l.length false) 0 true) := ⟨by simp, by simp, (hm0 0).2 rfl, hr0 0, fun i hi => by rw [(hm0 i).1 hi]; exact .start, fun T hL i hi => by rw [(hm0 i).1 hi, hr0]; exact hL.zero.symm⟩
  obtain ⟨out, met, q1, q2, q3, q4, q5⟩ := rn_l6 l locks (by omega) hsr p.globals p.locks p.slots p.funcs l.length 0 _ _ (Nat.zero_add _) S
  rw [show ((0 : Nat) : Int) = 0 from rfl] at q1
  obtain ⟨b, b1, b2⟩ := rn_l19 p (by omega) locks hU l (by omega) hok out met q2.ol q2.ml l.length 0 (Nat.zero_add _)
  rw [show ((0 : Nat) : Int) = 0 from rfl] at b1
  have hcl : ClosedN l met := by
    rcases q5 with h | h
    · exact h
    · exfalso
      have h1 := count_lt (s := List.replicate l.length false) (s' := List.set (List.replicate l.length false) 0 true) (by simp) (fun y hy => absurd hy (sn_replicate _ _)) (sn_replicate _ 0) ((hm0 0).2 rfl)
      have h2 := List.count_le_length (a := false) (l := List.replicate l.length false)
      rw [List.length_replicate] at h2
      omega
  rw [bind_some q1, bind_some b1]
  have toLab : (∀ j, 0 ≤ j → j < l.length → Chk l locks out met j) → Lab l locks (fun i => List.getD out i 0#32) := fun hall => ⟨q2.oz, fun i hi => q2.go i (hall i (Nat.zero_le _) hi).1, fun i hi => (hall i (Nat.zero_le _) hi).2.1, fun i y hi hy => by
    obtain ⟨j, hj, e⟩ := List.mem_iff_getElem.1 hy
    have := (hall i (Nat.zero_le _) hi).2.2 j hj
    rw [e, Int.toNat_natCast] at this
    exact this⟩
  have hmet : ∀ T, Lab l locks T → ∀ i, i < l.length → Sn met i := fun T hL i hi => by
    have hgo : ∀ i, Go1 l i → Sn met i := fun i hi => by
      induction hi with
      | start => exact q2.z
      | on i y _ h1 hy ih => exact hcl i ih y ⟨h1, hy⟩
    exact hgo i (hL.all i hi)
  have ofLab : ∀ T, Lab l locks T → ∀ j, 0 ≤ j → j < l.length → Chk l locks out met j := fun T hL j _ hj => by
    have eT : ∀ i, i < l.length → List.getD out i 0#32 = T i := fun i hi => q2.lab T hL i (hmet T hL i hi)
    refine ⟨hmet T hL j hj, by rw [eT j hj]; exact hL.fine j hj, fun q hq => ?_⟩
    have hmem := List.getElem_mem hq
    have hr := hsr j hj _ hmem
    rw [eT _ (by omega), eT j hj]
    refine hL.on j _ hj ?_
    rw [show ((((succ (List.getD l j d_api_Node))[q]).toNat : Nat) : Int) = (succ (List.getD l j d_api_Node))[q] by omega]
    exact hmem
  cases b with
  | true => exact ⟨1, out, rfl, .inr rfl, q2.ol, fun _ => toLab (b2.1 rfl), fun T hL => ⟨rfl, fun i hi => q2.lab T hL i (hmet T hL i hi)⟩⟩
  | false => exact ⟨0, out, rfl, .inl rfl, q2.ol, (fun h => by cases h), fun T hL => absurd (b2.2 (ofLab T hL)) (by decide)⟩
theorem awake25 : alibilaw25_awake = some true := alibilaw25_awake_le 40 _ (by kernel_rfl)
/-- The nodes that begin threads. -/
def spn (l : List api_Node) : Nat → Nat → List Int
  | i, 0 => []
  | i, m + 1 => (if (List.getD l i d_api_Node).kind = 5 then [(i : Int)] else []) ++ spn l (i + 1) m
theorem spn_len (l : List api_Node) : ∀ (m i : Nat), (spn l i m).length ≤ m
  | 0, i => Nat.le_refl _
  | m + 1, i => by
    have := spn_len l m (i + 1)
    unfold spn
    split <;> simp <;> omega
theorem cp_l6 (l : List api_Node) (hl : l.length ≤ 65536) (x0 : List Bool) (x2 x3 x4 : Int) (x5 : FS) (x6 x7 : W32) : ∀ (m i : Nat) (x1 : List Int), i + m = l.length → x1.length ≤ i → class_Part_l6 x0 x1 x2 x3 x4 x5 x6 x7 l (l.length : Int) (i : Int) = some (x1 ++ spn l i m)
  | 0, i, x1, h, hx => by
    rw [class_Part_l6, if_neg (by simp only [decide_eq_true_eq]; omega), spn, List.append_nil]
  | m + 1, i, x1, h, hx => by
    rw [class_Part_l6, if_pos (decide_eq_true (by omega)), if_pos (decide_eq_true (by omega)), if_pos (decide_eq_true (by omega)), Int.toNat_natCast, inc i (by omega), spn]
    by_cases k : (List.getD l i d_api_Node).kind = 5
    · rw [if_pos (eqT k), if_pos (Nat.ble_eq_true_of_le (by simp only [List.length_singleton, reach]; omega)), if_pos k, cp_l6 l hl x0 x2 x3 x4 x5 x6 x7 m (i + 1) _ (by omega) (by simp; omega), List.append_assoc]
    · rw [if_neg (eqF k), if_neg k, cp_l6 l hl x0 x2 x3 x4 x5 x6 x7 m (i + 1) _ (by omega) (by omega)]
      rfl
theorem rp_l3 (p : api_Program) (h0 : 0 < p.funcs.length) (hl : (List.getD p.funcs 0 []).length ≤ 65536) : ∀ (m i : Nat) (x0 : List Int), i + m = (List.getD p.funcs 0 []).length → x0.length ≤ i → alibiref25_Part_l3 x0 p.globals p.locks p.slots p.funcs (i : Int) = some (x0 ++ spn (List.getD p.funcs 0 []) i m)
  | 0, i, x0, h, hx => by
    rw [alibiref25_Part_l3, if_pos (decide_eq_true (by omega)), if_neg (by simp only [decide_eq_true_eq]; omega), spn, List.append_nil]
  | m + 1, i, x0, h, hx => by
    rw [alibiref25_Part_l3, if_pos (decide_eq_true (by omega)), if_pos (decide_eq_true (by omega)), if_pos (decide_eq_true (by omega)), if_pos (decide_eq_true (by omega)), Int.toNat_natCast, inc i (by omega), spn]
    by_cases k : (List.getD (List.getD p.funcs 0 []) i d_api_Node).kind = 5
    · rw [if_pos (eqT k), if_pos (Nat.ble_eq_true_of_le (by simp only [List.length_singleton, reach]; omega)), if_pos k, rp_l3 p h0 hl m (i + 1) _ (by omega) (by simp; omega), List.append_assoc]
    · rw [if_neg (eqF k), if_neg k, rp_l3 p h0 hl m (i + 1) _ (by omega) (by omega)]
      rfl
/-- Whom the first function calls, at nodes behind or not. -/
def Cll (l : List api_Node) (beh : List Bool) (w : Bool) (i : Nat) (y : Int) : Prop := ∃ j, i ≤ j ∧ j < l.length ∧ (List.getD l j d_api_Node).kind = 7 ∧ List.getD beh j false = w ∧ (List.getD l j d_api_Node).arg = y
theorem cll_step {l : List api_Node} {beh : List Bool} {w : Bool} {i : Nat} {y : Int} (hi : i < l.length) : Cll l beh w i y ↔ ((List.getD l i d_api_Node).kind = 7 ∧ List.getD beh i false = w ∧ (List.getD l i d_api_Node).arg = y) ∨ Cll l beh w (i + 1) y := by
  constructor
  · rintro ⟨j, h1, h2, h3⟩
    rcases Nat.eq_or_lt_of_le h1 with rfl | h4
    · exact .inl h3
    · exact .inr ⟨j, h4, h2, h3⟩
  · rintro (h | ⟨j, h1, h2⟩)
    · exact ⟨i, Nat.le_refl _, hi, h⟩
    · exact ⟨j, by omega, h2⟩
theorem cll_end {l : List api_Node} {beh : List Bool} {w : Bool} {i : Nat} {y : Int} (hi : l.length ≤ i) : ¬ Cll l beh w i y := fun ⟨j, h1, h2, _⟩ => by omega
theorem cp_l14 (l : List api_Node) (hl : l.length ≤ 65536) (beh : List Bool) (hb : beh.length = l.length) (x0 : List Bool) (x2 x3 x4 : Int) (x5 : FS) (x6 x7 x8 x9 : W32) : ∀ (m i : Nat) (e t : W32) (_ : W32), i + m = l.length → ∃ e' t', class_Part_l14 x0 beh x2 x3 x4 x5 x6 x7 x8 x9 e t l (l.length : Int) (i : Int) = some (e', t') ∧ (∀ b, e'.getLsbD b = true ↔ e.getLsbD b = true ∨ (b < 32 ∧ Cll l beh false i (b : Int))) ∧ ∀ b, t'.getLsbD b = true ↔ t.getLsbD b = true ∨ (b < 32 ∧ Cll l beh true i (b : Int))
  | 0, i, e, t, _, h => by
    rw [class_Part_l14, if_neg (by simp only [decide_eq_true_eq]; omega)]
    exact ⟨e, t, rfl, fun b => ⟨.inl, fun h => h.elim id fun h2 => absurd h2.2 (cll_end (by omega))⟩, fun b => ⟨.inl, fun h => h.elim id fun h2 => absurd h2.2 (cll_end (by omega))⟩⟩
  | m + 1, i, e, t, z, h => by
    have hi : i < l.length := by omega
    rw [class_Part_l14, if_pos (decide_eq_true (by omega)), if_pos (decide_eq_true (by omega)), if_pos (decide_eq_true (by omega)), Int.toNat_natCast, inc i (by omega)]
    by_cases k : (List.getD l i d_api_Node).kind = 7
    · rw [if_neg (show ¬ ((List.getD l i d_api_Node).kind != 7) = true by rw [bne_iff_ne]; exact fun hn => hn k), if_pos (decide_eq_true (by omega))]
      cases c : List.getD beh i false with
      | true =>
        rw [if_pos (show true = true from rfl), bind_some (one_eq _)]
        obtain ⟨e', t', q1, q2, q3⟩ := cp_l14 l hl beh hb x0 x2 x3 x4 x5 x6 x7 x8 x9 m (i + 1) e (t ||| one (List.getD l i d_api_Node).arg) z (by omega)
        refine ⟨e', t', q1, fun b => ?_, fun b => ?_⟩
        · rw [q2, cll_step hi, c]
          exact ⟨fun h => h.imp id fun h => ⟨h.1, .inr h.2⟩, fun h => h.imp id fun h => ⟨h.1, h.2.elim (fun h => by cases h.2.1) id⟩⟩
        · rw [q3, cll_step hi, c, BitVec.getLsbD_or, Bool.or_eq_true, one_bit]
          constructor
          · rintro ((h | h) | h)
            · exact .inl h
            · exact .inr ⟨h.2, .inl ⟨k, rfl, h.1⟩⟩
            · exact .inr ⟨h.1, .inr h.2⟩
          · rintro (h | ⟨h1, h2 | h2⟩)
            · exact .inl (.inl h)
            · exact .inl (.inr ⟨h2.2.2, h1⟩)
            · exact .inr ⟨h1, h2⟩
      | false =>
        rw [if_neg (by decide), bind_some (one_eq _)]
        obtain ⟨e', t', q1, q2, q3⟩ := cp_l14 l hl beh hb x0 x2 x3 x4 x5 x6 x7 x8 x9 m (i + 1) (e ||| one (List.getD l i d_api_Node).arg) t z (by omega)
        refine ⟨e', t', q1, fun b => ?_, fun b => ?_⟩
        · rw [q2, cll_step hi, c, BitVec.getLsbD_or, Bool.or_eq_true, one_bit]
          constructor
          · rintro ((h | h) | h)
            · exact .inl h
            · exact .inr ⟨h.2, .inl ⟨k, rfl, h.1⟩⟩
            · exact .inr ⟨h.1, .inr h.2⟩
          · rintro (h | ⟨h1, h2 | h2⟩)
            · exact .inl (.inl h)
            · exact .inl (.inr ⟨h2.2.2, h1⟩)
            · exact .inr ⟨h1, h2⟩
        · rw [q3, cll_step hi, c]
          exact ⟨fun h => h.imp id fun h => ⟨h.1, .inr h.2⟩, fun h => h.imp id fun h => ⟨h.1, h.2.elim (fun h => by cases h.2.1) id⟩⟩
    · rw [if_pos (show ((List.getD l i d_api_Node).kind != 7) = true by rw [bne_iff_ne]; exact k)]
      obtain ⟨e', t', q1, q2, q3⟩ := cp_l14 l hl beh hb x0 x2 x3 x4 x5 x6 x7 x8 x9 m (i + 1) e t z (by omega)
      refine ⟨e', t', q1, fun b => ?_, fun b => ?_⟩
      · rw [q2, cll_step hi]
        exact ⟨fun h => h.imp id fun h => ⟨h.1, .inr h.2⟩, fun h => h.imp id fun h => ⟨h.1, h.2.elim (fun h => absurd h.1 k) id⟩⟩
      · rw [q3, cll_step hi]
        exact ⟨fun h => h.imp id fun h => ⟨h.1, .inr h.2⟩, fun h => h.imp id fun h => ⟨h.1, h.2.elim (fun h => absurd h.1 k) id⟩⟩
theorem rp_l9 (p : api_Program) (h0 : 0 < p.funcs.length) (hl : (List.getD p.funcs 0 []).length ≤ 65536) (beh : List Bool) (hb : beh.length = (List.getD p.funcs 0 []).length) : ∀ (m i : Nat) (e t : List Int), i + m = (List.getD p.funcs 0 []).length → e.length ≤ i → t.length ≤ i → ∃ e' t', alibiref25_Part_l9 e t beh p.globals p.locks p.slots p.funcs (i : Int) = some (e', t') ∧ e'.length ≤ i + m ∧ t'.length ≤ i + m ∧ (∀ y, y ∈ e' ↔ y ∈ e ∨ Cll (List.getD p.funcs 0 []) beh false i y) ∧ ∀ y, y ∈ t' ↔ y ∈ t ∨ Cll (List.getD p.funcs 0 []) beh true i y
  | 0, i, e, t, h, he, ht => by
    rw [alibiref25_Part_l9, if_pos (decide_eq_true (by omega)), if_neg (by simp only [decide_eq_true_eq]; omega)]
    exact ⟨e, t, rfl, by omega, by omega, fun b => ⟨.inl, fun h => h.elim id fun h2 => absurd h2 (cll_end (by omega))⟩, fun b => ⟨.inl, fun h => h.elim id fun h2 => absurd h2 (cll_end (by omega))⟩⟩
  | m + 1, i, e, t, h, he, ht => by
    have hi : i < (List.getD p.funcs 0 []).length := by omega
    rw [alibiref25_Part_l9, if_pos (decide_eq_true (by omega)), if_pos (decide_eq_true (by omega)), if_pos (decide_eq_true (by omega)), if_pos (decide_eq_true (by omega)), Int.toNat_natCast, inc i (by omega)]
    by_cases k : (List.getD (List.getD p.funcs 0 []) i d_api_Node).kind = 7
    · rw [if_pos (eqT k), if_pos (decide_eq_true (by omega))]
      cases c : List.getD beh i false with
      | true =>
        rw [if_pos (show true = true from rfl), if_pos (Nat.ble_eq_true_of_le (by simp only [List.length_singleton, reach]; omega)), if_neg (show ¬ (!true) = true by decide)]
        obtain ⟨e', t', q1, l1, l2, q2, q3⟩ := rp_l9 p h0 hl beh hb m (i + 1) e (t ++ [(List.getD (List.getD p.funcs 0 []) i d_api_Node).arg]) (by omega) (by omega) (by rw [List.length_append, List.length_singleton]; omega)
        refine ⟨e', t', q1, by omega, by omega, fun y => ?_, fun y => ?_⟩
        · rw [q2, cll_step hi, c]
          exact ⟨fun h => h.imp id .inr, fun h => h.imp id fun h => h.elim (fun h => by cases h.2.1) id⟩
        · rw [q3, cll_step hi, c, List.mem_append, List.mem_singleton]
          constructor
          · rintro ((h | h) | h)
            · exact .inl h
            · exact .inr (.inl ⟨k, rfl, h.symm⟩)
            · exact .inr (.inr h)
          · rintro (h | h | h)
            · exact .inl (.inl h)
            · exact .inl (.inr h.2.2.symm)
            · exact .inr h
      | false =>
        rw [if_neg (show ¬ (false = true) by decide), if_pos (show (!false) = true by decide), if_pos (Nat.ble_eq_true_of_le (by simp only [List.length_singleton, reach]; omega))]
        obtain ⟨e', t', q1, l1, l2, q2, q3⟩ := rp_l9 p h0 hl beh hb m (i + 1) (e ++ [(List.getD (List.getD p.funcs 0 []) i d_api_Node).arg]) t (by omega) (by rw [List.length_append, List.length_singleton]; omega) (by omega)
        refine ⟨e', t', q1, by omega, by omega, fun y => ?_, fun y => ?_⟩
        · rw [q2, cll_step hi, c, List.mem_append, List.mem_singleton]
          constructor
          · rintro ((h | h) | h)
            · exact .inl h
            · exact .inr (.inl ⟨k, rfl, h.symm⟩)
            · exact .inr (.inr h)
          · rintro (h | h | h)
            · exact .inl (.inl h)
            · exact .inl (.inr h.2.2.symm)
            · exact .inr h
        · rw [q3, cll_step hi, c]
          exact ⟨fun h => h.imp id .inr, fun h => h.imp id fun h => h.elim (fun h => by cases h.2.1) id⟩
    · rw [if_neg (eqF k)]
      obtain ⟨e', t', q1, l1, l2, q2, q3⟩ := rp_l9 p h0 hl beh hb m (i + 1) e t (by omega) (by omega) (by omega)
      refine ⟨e', t', q1, by omega, by omega, fun y => ?_, fun y => ?_⟩
      · rw [q2, cll_step hi]
        exact ⟨fun h => h.imp id .inr, fun h => h.imp id fun h => h.elim (fun h => absurd h.1 k) id⟩
      · rw [q3, cll_step hi]
        exact ⟨fun h => h.imp id .inr, fun h => h.imp id fun h => h.elim (fun h => absurd h.1 k) id⟩
theorem rp_l17 (p : api_Program) (hg : Good p) (x0 : List Int) (x2 : List Bool) : ∀ (m f : Nat) (t : List Int), f + m = p.funcs.length → t.length ≤ 1000 + f → ∃ t', alibiref25_Part_l17 x0 t x2 p.globals p.locks p.slots p.funcs (f : Int) = some t' ∧ t'.length ≤ 1000 + f + m ∧ ∀ y, y ∈ t' ↔ y ∈ t ∨ ∃ g : Nat, f ≤ g ∧ g < p.funcs.length ∧ Begun p.funcs g ∧ y = (g : Int)
  | 0, f, t, h, ht => by
    rw [alibiref25_Part_l17, if_neg (by simp only [decide_eq_true_eq]; omega)]
    exact ⟨t, rfl, by omega, fun y => ⟨.inl, fun h => h.elim id fun ⟨g, h1, h2, _⟩ => by omega⟩⟩
  | m + 1, f, t, h, ht => by
    have hn := hg.funcs
    obtain ⟨b, b1, b2⟩ := refbegun_eq p hg f (by omega)
    rw [alibiref25_Part_l17, if_pos (decide_eq_true (by omega)), bind_some (show alibiref15_Begun (api_Program.mk p.globals p.locks p.slots p.funcs) (f : Int) = _ from b1), inc f (by omega)]
    cases b with
    | true =>
      rw [if_pos (show true = true from rfl), if_pos (Nat.ble_eq_true_of_le (by simp only [List.length_singleton, reach]; omega))]
      obtain ⟨t', q1, q2, q3⟩ := rp_l17 p hg x0 x2 m (f + 1) (t ++ [(f : Int)]) (by omega) (by rw [List.length_append, List.length_singleton]; omega)
      refine ⟨t', q1, by omega, fun y => ?_⟩
      rw [q3, List.mem_append, List.mem_singleton]
      constructor
      · rintro ((h1 | h1) | ⟨g, h1, h2⟩)
        · exact .inl h1
        · exact .inr ⟨f, Nat.le_refl _, by omega, b2.1 rfl, h1⟩
        · exact .inr ⟨g, by omega, h2⟩
      · rintro (h1 | ⟨g, h1, h2, h3, h4⟩)
        · exact .inl (.inl h1)
        · rcases Nat.eq_or_lt_of_le h1 with rfl | h5
          · exact .inl (.inr h4)
          · exact .inr ⟨g, h5, h2, h3, h4⟩
    | false =>
      rw [if_neg (by decide)]
      obtain ⟨t', q1, q2, q3⟩ := rp_l17 p hg x0 x2 m (f + 1) t (by omega) (by omega)
      refine ⟨t', q1, by omega, fun y => ?_⟩
      rw [q3]
      constructor
      · rintro (h1 | ⟨g, h1, h2⟩)
        · exact .inl h1
        · exact .inr ⟨g, by omega, h2⟩
      · rintro (h1 | ⟨g, h1, h2, h3, h4⟩)
        · exact .inl h1
        · rcases Nat.eq_or_lt_of_le h1 with rfl | h5
          · exact absurd (b2.2 h3) (by decide)
          · exact .inr ⟨g, h5, h2, h3, h4⟩
theorem part_good (p : api_Program) (hg : Good p) (hk : prog_Check p = some (0, 0, 0)) : ∃ (beh : List Bool) (E L : W32) (el ll : List Int), class_Part p = some (E, L, 0, beh) ∧ alibiref25_Part p = some (beh, el, ll) ∧ alibiref03_Mask el = some E ∧ alibiref03_Mask ll = some L := by
  have hn := hg.funcs
  have hll := hg.le 0
  have hle : ∀ f, (List.getD p.funcs f []).length ≤ 65536 := fun f => by have := hg.le f; omega
  have hsp := spn_len (List.getD p.funcs 0 []) (List.getD p.funcs 0 []).length 0
  obtain ⟨a, a1, a2, a3⟩ := after_eq (List.getD p.funcs 0 []) (by omega) (spn (List.getD p.funcs 0 []) 0 (List.getD p.funcs 0 []).length) (by omega)
  obtain ⟨a', r1, r2, r3⟩ := refafter_eq (List.getD p.funcs 0 []) (by omega) (spn (List.getD p.funcs 0 []) 0 (List.getD p.funcs 0 []).length) (by omega)
  have ea : a' = a := sn_ext (by omega) fun y => by rw [r3, a3]
  subst ea
  obtain ⟨x, x1, x2⟩ := begun_eq p hg
  obtain ⟨e, t, e1, e2, e3⟩ := cp_l14 (List.getD p.funcs 0 []) (by omega) a' a2 [] p.globals p.locks p.slots p.funcs 0#32 0#32 0#32 0#32 (List.getD p.funcs 0 []).length 0 0#32 x 0#32 (Nat.zero_add _)
  obtain ⟨el, tl, f1, f2, f3, f4, f5⟩ := rp_l9 p (by omega) (by omega) a' a2 (List.getD p.funcs 0 []).length 0 [] [] (Nat.zero_add _) (Nat.le_refl _) (Nat.le_refl _)
  obtain ⟨ll, g1, g2, g3⟩ := rp_l17 p hg el a' p.funcs.length 0 tl (Nat.zero_add _) (by omega)
  rw [show ((0 : Nat) : Int) = 0 from rfl] at e1 f1 g1
  obtain ⟨C, c1, c2, c3⟩ := callees_eq p (by omega) hle
  have hC : C.length ≤ 32 := by omega
  obtain ⟨E, E1, E2⟩ := reachL_eq p c1 hC e
  obtain ⟨L, L1, L2⟩ := reachL_eq p c1 hC t
  have argOk : ∀ w y, Cll (List.getD p.funcs 0 []) a' w 0 y → 0 ≤ y ∧ y < (p.funcs.length : Int) := fun w y ⟨j, _, h2, h3, _, h4⟩ => by
    have := (hg.node 0 j (by omega) h2).call h3
    rw [h4] at this
    exact this
  have elr : ∀ y ∈ el, 0 ≤ y := fun y hy => by
    rcases (f4 y).1 hy with h | h
    · cases h
    · exact (argOk _ _ h).1
  have llr : ∀ y ∈ ll, 0 ≤ y := fun y hy => by
    rcases (g3 y).1 hy with h | ⟨g, _, _, _, h⟩
    · rcases (f5 y).1 h with h | h
      · cases h
      · exact (argOk _ _ h).1
    · omega
  obtain ⟨er, m1, m2, m3⟩ := rf_list p (by omega) hle c2 c3 el (by omega) elr
  obtain ⟨lr, n1, n2, n3⟩ := rf_list p (by omega) hle c2 c3 ll (by omega) llr
  obtain ⟨Em, u1, u2⟩ := mask_eq er (by have := m2.length_le (by omega); omega) m2
  obtain ⟨Lm, v1, v2⟩ := mask_eq lr (by have := n2.length_le (by omega); omega) n2
  have hE : Em = E := bits_eq fun b => by
    rw [u2, m3, E2]
    constructor
    · rintro ⟨z, h1, h2, h3⟩
      refine ⟨z, by omega, (e2 z).2 (.inr ⟨by omega, ?_⟩), h3⟩
      exact ((f4 _).1 h2).elim (fun h => by cases h) id
    · rintro ⟨z, h1, h2, h3⟩
      refine ⟨z, by omega, (f4 _).2 (.inr ?_), h3⟩
      rcases (e2 z).1 h2 with h | h
      · simp at h
      · exact h.2
  have hL : Lm = L := bits_eq fun b => by
    rw [v2, n3, L2]
    constructor
    · rintro ⟨z, h1, h2, h3⟩
      refine ⟨z, by omega, (e3 z).2 ?_, h3⟩
      rcases (g3 _).1 h2 with h | ⟨g, _, h4, h5, h6⟩
      · exact .inr ⟨by omega, ((f5 _).1 h).elim (fun h => by cases h) id⟩
      · have : z = g := Int.ofNat.inj h6
        rw [this]
        exact .inl ((x2 g (by omega)).2 h5)
    · rintro ⟨z, h1, h2, h3⟩
      refine ⟨z, by omega, (g3 _).2 ?_, h3⟩
      rcases (e3 z).1 h2 with h | h
      · exact .inr ⟨z, Nat.zero_le _, by omega, (x2 z (by omega)).1 h, rfl⟩
      · exact .inl ((f5 _).2 (.inr h.2))
  subst hE
  subst hL
  refine ⟨a', Em, Lm, er, lr, ?_, ?_, u1, v1⟩
  · have q6 := cp_l6 (List.getD p.funcs 0 []) (by omega) [] p.globals p.locks p.slots p.funcs 0#32 0#32 (List.getD p.funcs 0 []).length 0 [] (Nat.zero_add _) (Nat.le_refl _)
    rw [show ((0 : Nat) : Int) = 0 from rfl, List.nil_append] at q6
    unfold class_Part
    rw [bind_some hk, if_neg (show ¬ ((0 : Int) != 0) = true by decide), if_pos (decide_eq_true (by omega)), bind_some q6, bind_some a1, bind_some x1, bind_some e1, bind_some E1, bind_some L1]
  · have q3 := rp_l3 p (by omega) (by omega) (List.getD p.funcs 0 []).length 0 [] (Nat.zero_add _) (Nat.le_refl _)
    rw [show ((0 : Nat) : Int) = 0 from rfl, List.nil_append] at q3
    unfold alibiref25_Part
    rw [bind_some q3, if_pos (decide_eq_true (by omega)), bind_some r1, bind_some f1, bind_some g1, bind_some m1, bind_some n1]
theorem part_bad (p : api_Program) {a b e : Int} (hk : prog_Check p = some (a, b, e)) (he : e ≠ 0) : class_Part p = some (0#32, 0#32, e, []) := by
  unfold class_Part
  rw [bind_some hk, if_pos (show (e != 0) = true by rw [bne_iff_ne]; exact he)]
theorem nests_l11 (x : List Bool) (hx : x.length ≤ 65536) (x2 x3 x4 : Int) (x5 : FS) (x6 x7 : W32) : ∀ (m i : Nat), i + m = x.length → alibilaw25_ClassNests_l11 x x x2 x3 x4 x5 x6 x7 (i : Int) = some .x1
  | 0, i, h => by rw [alibilaw25_ClassNests_l11, if_neg (by simp only [decide_eq_true_eq]; omega)]
  | m + 1, i, h => by
    rw [alibilaw25_ClassNests_l11, if_pos (decide_eq_true (by omega)), if_pos (decide_eq_true (by omega)), if_pos (decide_eq_true (by omega)), if_pos (decide_eq_true (by omega)), if_neg (by simp), inc i (by omega)]
    exact nests_l11 x hx x2 x3 x4 x5 x6 x7 m (i + 1) (by omega)
theorem nests_l17 (p : api_Program) (hg : Good p) : ∀ (m f : Nat) (x0 : List W32), f + m = p.funcs.length → x0.length = f → (∀ g : Nat, g < f → ∃ u, alibiref25_Uses p (g : Int) = some u ∧ Rises 0 u ∧ ∀ b : Nat, (List.getD x0 g 0#32).getLsbD b = true ↔ (b : Int) ∈ u) → ∃ L, alibilaw25_ClassNests_l17 x0 p.globals p.locks p.slots p.funcs (f : Int) = some L ∧ Uss p L
  | 0, f, x0, h, hx, hu => by
    rw [alibilaw25_ClassNests_l17, if_neg (by simp only [decide_eq_true_eq]; omega)]
    exact ⟨x0, rfl, by omega, fun g hgl => hu g (by omega)⟩
  | m + 1, f, x0, h, hx, hu => by
    have hn := hg.funcs
    obtain ⟨t, t1, t2, _⟩ := refgather_eq p hg f (by omega) 3 4
    obtain ⟨M, m1, m2⟩ := mask_eq t (by have := t2.length_le (by omega); omega) t2
    have hu1 : alibiref25_Uses p (f : Int) = some t := by
      unfold alibiref25_Uses
      rw [bind_some t1]
    rw [alibilaw25_ClassNests_l17, if_pos (decide_eq_true (by omega)), bind_some (show alibiref25_Uses (api_Program.mk p.globals p.locks p.slots p.funcs) (f : Int) = _ from hu1), bind_some m1, if_pos (Nat.ble_eq_true_of_le (by simp only [List.length_singleton, reach]; omega)), inc f (by omega)]
    refine nests_l17 p hg m (f + 1) (x0 ++ [M]) (by omega) (by rw [List.length_append, List.length_singleton]; omega) fun g hgl => ?_
    rcases Nat.lt_or_ge g f with h1 | h1
    · obtain ⟨u, u1, u2, u3⟩ := hu g h1
      refine ⟨u, u1, u2, fun b => ?_⟩
      rw [show List.getD (x0 ++ [M]) g 0#32 = List.getD x0 g 0#32 by unfold List.getD; rw [List.getElem?_append_left (by omega)]]
      exact u3 b
    · have : g = f := by omega
      subst this
      refine ⟨t, hu1, t2, fun b => ?_⟩
      rw [show List.getD (x0 ++ [M]) g 0#32 = M by unfold List.getD; rw [← hx, List.getElem?_concat_length]; rfl]
      exact m2 b
theorem nests_l28 (L a b : List W32) (hl : a.length = b.length) (hb : b.length ≤ 65536) (ok : Bool) (hab : ok = true → ∀ i, i < b.length → List.getD a i 0#32 = List.getD b i 0#32) (x3 x4 x5 : Int) (x6 : FS) (x7 : Int) : ∀ (m i : Nat), i + m = b.length → alibilaw25_ClassNests_l28 L a b x3 x4 x5 x6 x7 ok (i : Int) = some .x1
  | 0, i, h => by rw [alibilaw25_ClassNests_l28, if_neg (by simp only [decide_eq_true_eq]; omega)]
  | m + 1, i, h => by
    rw [alibilaw25_ClassNests_l28, if_pos (decide_eq_true (by omega))]
    cases ok with
    | false => rw [if_neg (by decide)]
    | true =>
      rw [if_pos (show true = true from rfl), if_pos (decide_eq_true (by omega)), if_pos (decide_eq_true (by omega)), if_pos (decide_eq_true (by omega)), Int.toNat_natCast, if_neg (show ¬ (List.getD a i 0#32 != List.getD b i 0#32) = true by rw [bne_iff_ne]; exact fun hn => hn (hab rfl i (by omega))), inc i (by omega)]
      exact nests_l28 L a b hl hb true hab x3 x4 x5 x6 x7 m (i + 1) (by omega)
theorem nests_l21 (p : api_Program) (hg : Good p) (L : List W32) (hU : Uss p L) : ∀ (m f : Nat), f + m = p.funcs.length → alibilaw25_ClassNests_l21 L p.globals p.locks p.slots p.funcs (f : Int) = some .x1
  | 0, f, h => by rw [alibilaw25_ClassNests_l21, if_neg (by simp only [decide_eq_true_eq]; omega)]
  | m + 1, f, h => by
    have hn := hg.funcs
    have hle := hg.le f
    have h0 := (hg.len f (by omega)).1
    have hsr : ∀ i, i < (List.getD p.funcs f []).length → ∀ y ∈ succ (List.getD (List.getD p.funcs f []) i d_api_Node), 0 ≤ y ∧ y < ((List.getD p.funcs f []).length : Int) := fun i hi y hy => by
      have := succ_ok (hg.node f i (by omega) hi) (by omega) y hy
      omega
    obtain ⟨b, o, q1, q2, q3, q4⟩ := cnested_eq (List.getD p.funcs f []) L h0 (by omega) hsr
    obtain ⟨is, w, r1, r2, r3, r4, r5⟩ := rnested_eq p hg L hU f (by omega)
    have hbi : b = (is == 1) := by
      rcases r2 with h | h
      · subst h
        cases b with
        | false => rfl
        | true => exact absurd (r5 _ (q3 rfl)).1 (by decide)
      · subst h
        exact (q4 _ (r4 rfl)).1
    have hab : b = true → ∀ i, i < w.length → List.getD o i 0#32 = List.getD w i 0#32 := fun hb i hi => ((r5 _ (q3 hb)).2 i (by omega)).symm
    have q := nests_l28 L o w (by omega) (by omega) b hab p.globals p.locks p.slots p.funcs (f : Int) w.length 0 (Nat.zero_add _)
    rw [show ((0 : Nat) : Int) = 0 from rfl] at q
    rw [alibilaw25_ClassNests_l21, if_pos (decide_eq_true (by omega)), if_pos (decide_eq_true (by omega)), if_pos (decide_eq_true (by omega)), Int.toNat_natCast, bind_some q1, bind_some (show alibiref25_Nested (api_Program.mk p.globals p.locks p.slots p.funcs) (f : Int) = _ from r1), if_neg (show ¬ (!(b == (is == 1))) = true by rw [hbi]; simp), if_neg (show ¬ (((o.length : Nat) : Int) != (((List.getD p.funcs f []).length : Nat) : Int)) = true by rw [bne_iff_ne]; exact fun hn => hn (by omega)), bind_some q, inc f (by omega)]
    exact nests_l21 p hg L hU m (f + 1) (by omega)
theorem classNests (p : api_Program) : alibilaw25_ClassNests p = some true := by
  unfold alibilaw25_ClassNests
  rw [bind_some awake25, if_neg (by decide)]
  obtain ⟨sm, s1, s2⟩ := small_eq p
  rw [bind_some s1]
  cases sm with
  | false => rw [if_pos (by decide), bind_some awake25]
  | true =>
    rw [if_neg (by decide)]
    obtain ⟨⟨ra, rb, re⟩, r1, r0, r2, _⟩ := check_eq p
    by_cases he : re = 0
    · obtain ⟨r5, hg⟩ := r2 he
      rw [r5] at r1 r0
      have hz : ¬ ((0 : Int) != 0) = true := by decide
      obtain ⟨beh, E, L, el, ll, p1, p2, p3, p4⟩ := part_good p hg r1
      obtain ⟨lk, k1, k2⟩ := nests_l17 p hg p.funcs.length 0 [] (Nat.zero_add _) rfl fun g hgl => by omega
      have hbl : beh.length ≤ 65536 := by
        have := r1
        have hn := hg.funcs
        have hll := hg.le 0
        have hsp := spn_len (List.getD p.funcs 0 []) (List.getD p.funcs 0 []).length 0
        obtain ⟨a, a1, a2, _⟩ := refafter_eq (List.getD p.funcs 0 []) (by omega) (spn (List.getD p.funcs 0 []) 0 (List.getD p.funcs 0 []).length) (by omega)
        have q3 := rp_l3 p (by omega) (by omega) (List.getD p.funcs 0 []).length 0 [] (Nat.zero_add _) (Nat.le_refl _)
        rw [show ((0 : Nat) : Int) = 0 from rfl, List.nil_append] at q3
        have h2 := p2
        unfold alibiref25_Part at h2
        rw [bind_some q3, if_pos (decide_eq_true (by omega)), bind_some a1] at h2
        obtain ⟨v1, _, h2⟩ := bind_of h2
        obtain ⟨v2, _, h2⟩ := bind_of h2
        obtain ⟨v3, _, h2⟩ := bind_of h2
        obtain ⟨v4, _, h2⟩ := bind_of h2
        have h3 := Option.some.inj h2
        have e9 : a = beh := congrArg (fun z => z.1) h3
        rw [← e9]
        omega
      have q := nests_l11 beh hbl p.globals p.locks p.slots p.funcs E L beh.length 0 (Nat.zero_add _)
      have q2 := nests_l21 p hg lk k2 p.funcs.length 0 (Nat.zero_add _)
      rw [show ((0 : Nat) : Int) = 0 from rfl] at q q2 k1
      rw [bind_some p1, bind_some r0, if_neg hz, bind_some p2, if_neg hz, if_neg (show ¬ (((beh.length : Nat) : Int) != ((beh.length : Nat) : Int)) = true by simp), bind_some p3, if_neg (show ¬ (E != E) = true by simp), bind_some p4, if_neg (show ¬ (L != L) = true by simp), bind_some q]
      simp only []
      rw [bind_some k1, bind_some q2]
    · rw [bind_some (part_bad p r1 he), bind_some r0, if_pos (show (re != 0) = true by rw [bne_iff_ne]; exact he), if_pos (by simp)]
      rfl
end Go.Bm.GoYtdifolgbppffpaaDoor
