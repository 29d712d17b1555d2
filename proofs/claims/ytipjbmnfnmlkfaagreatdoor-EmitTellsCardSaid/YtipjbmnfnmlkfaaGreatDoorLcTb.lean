import Derived.Test.YtipjbmnfnmlkfaaGreatDoorLcTa
namespace Go.Bm.GoYtipjbmnfnmlkfaaGreatDoor
set_option autoImplicit false
set_option linter.unusedVariables false
set_option linter.unusedSimpArgs false
set_option maxRecDepth 100000
theorem Fk (v : List W32) (x1 : List (List Int)) (x3 : List Int) (x4 : List Bool) (rs : List af) (js : List Int) (x7 : List af) (x8 x9 x10 : Int) (x11 x12 x13 : W32) (x14 : List af) (x15 x16 : Int) (hjs : js.length ≤ 2) :
  ∀ (n i : Nat) (u : List (List Int)), i + n = js.length → u.length = v.length → (∀ j : Nat, (u.getD j []).length + n ≤ 1000000) →
  aR v x1 u x3 x4 rs js x7 x8 x9 x10 x11 x12 x13 x14 x15 x16 (js.length : Int) (i : Int) = some ((js.drop i).foldl (fun u j => lf v.length u j (rs.length : Int)) u)
 | 0, i, u, h, hu, hb => by
  rw [aR, iN (by omega), List.drop_eq_nil_of_le (by omega)]
  rfl
 | n + 1, i, u, h, hu, hb => by
  have hi : av (i : Int) 1 = ((i + 1 : Nat) : Int) := by rw [dI (by omega) (by omega)]; omega
  have hlt : i < js.length := by omega
  rw [aR, iP (by omega), iP (by omega), iP (by omega), hi]
  have e : List.getD js (Int.toNat (i : Int)) 0 = js[i] := by simp [List.getD, hlt]
  rw [e, List.drop_eq_getElem_cons hlt, List.foldl_cons]
  generalize js[i] = j
  have ih := fun u' hu' hb' => Fk v x1 x3 x4 rs js x7 x8 x9 x10 x11 x12 x13 x14 x15 x16 hjs n (i + 1) u' (by omega) hu' hb'
  by_cases h0 : j ≥ 0
  ·rw [if_pos (decide_eq_true h0)]
   by_cases h1 : j < (v.length : Int)
   ·rw [if_pos (decide_eq_true h1), if_pos (decide_eq_true h0), if_pos (decide_eq_true (by rw [hu]; exact h1))]
    rw [if_pos (Nat.ble_eq_true_of_le (by have := hb j.toNat; simp only [List.length_singleton, aK]; omega))]
    have e1 : lf v.length u j (rs.length : Int) = u.set j.toNat (u.getD j.toNat [] ++ [(rs.length : Int)]) := if_pos ⟨h0, h1⟩
    rw [e1]
    refine ih _ (by simp [hu]) fun k => ?_
    have hk := hb k
    by_cases hkj : j.toNat = k
    ·subst hkj
     have : j.toNat < u.length := by omega
     simp [List.getD, this] at hk ⊢
     omega
    ·have : (u.set j.toNat (u.getD j.toNat [] ++ [(rs.length : Int)])).getD k [] = u.getD k [] := by simp [List.getD, List.getElem?_set, hkj]
     rw [this]; omega
   ·rw [if_neg (by simpa using h1)]
    have e1 : lf v.length u j (rs.length : Int) = u := if_neg (by omega)
    rw [e1]
    exact ih u hu fun k => by have := hb k; omega
  ·rw [if_neg (by simpa using h0)]
   have e1 : lf v.length u j (rs.length : Int) = u := if_neg (by omega)
   rw [e1]
   exact ih u hu fun k => by have := hb k; omega
def qA (v : List W32) : Nat := (v.map Fa).sum
theorem yu : ∀ (v : List W32) (i : Nat) (x : W32) (h : i < v.length), qA (v.set i x) + Fa v[i] = qA v + Fa x
 | a :: v, 0, x, h => by simp [qA]; omega
 | a :: v, i + 1, x, h => by
  have := yu v i x (by simpa using h)
  simp [qA] at this ⊢
  omega
def kR (l : List af) (n : Nat) (w : List W32) : Prop := ∀ r ∈ l, 0 ≤ r.to_ → r.to_ < (n : Int) → dW (gi w r.to_) (be r w)
theorem AY {l : List af} {v : List W32} {r : af} {x : W32} (hr : r ∈ l) (h0 : 0 ≤ r.to_) (h1 : r.to_ < v.length) (hx : x = be r v ||| gi v r.to_) :
  (∀ j, dW (gi (v.set r.to_.toNat x) j) (gi v j)) ∧ (∀ w, kR l v.length w → (∀ j, dW (gi w j) (gi v j)) → ∀ j, dW (gi w j) (gi (v.set r.to_.toNat x) j)) ∧ (x ≠ gi v r.to_ → qA (v.set r.to_.toNat x) < qA v) := by
 have hlt : r.to_.toNat < v.length := by omega
 have hcast : ((r.to_.toNat : Nat) : Int) = r.to_ := by omega
 have hg : ∀ j, gi (v.set r.to_.toNat x) j = if j = r.to_ then x else gi v j := fun j => by rw [mS v _ x hlt j, hcast]
 have hsub : dW x (gi v r.to_) := by rw [hx]; exact lQ _ _
 refine ⟨fun j => ?_, fun w hw hwv j => ?_, fun hne => ?_⟩
 ·rw [hg]
  split
  ·rename_i e; rw [e]; exact hsub
  ·exact dW.refl _
 ·rw [hg]
  split
  ·rename_i e
   rw [e, hx]
   exact E9 (dW.trans (hw r hr h0 h1) (Ch r hwv)) (hwv _)
  ·exact hwv j
 ·have h2 := yu v r.to_.toNat x hlt
  have h3 : v[r.to_.toNat] = gi v r.to_ := rZ h0 h1
  have h4 := Gv hsub hne
  rw [h3] at h2
  omega
structure Lfp (l : List af) (v v' : List W32) : Prop where
 len : v'.length = v.length
 sub : ∀ j, dW (gi v' j) (gi v j)
 best : ∀ w, kR l v.length w → (∀ j, dW (gi w j) (gi v j)) → ∀ j, dW (gi w j) (gi v' j)
 keeps : kR l v.length v'
def ik (v : List W32) (r : af) : Prop := dW (gi v r.to_) (be r v)
theorem zw {v : List W32} {t : Int} {x : W32} (h0 : 0 ≤ t) (h1 : t < v.length) (hx : dW x (gi v t)) {r : af} (hr : ik v r) (hf : r.from_ ≠ t) (ha : r.also ≠ t) : ik (v.set t.toNat x) r := by
 have hlt : t.toNat < v.length := by omega
 have hcast : ((t.toNat : Nat) : Int) = t := by omega
 have hg : ∀ j, gi (v.set t.toNat x) j = if j = t then x else gi v j := fun j => by rw [mS v _ x hlt j, hcast]
 unfold ik at hr ⊢
 rw [jA (v := v.set t.toNat x) (w := v) (by rw [hg, if_neg hf]) (by rw [hg, if_neg ha]), hg]
 split
 ·rename_i e; rw [e] at hr; exact hx.trans hr
 ·exact hr
theorem vg {v : List W32} {r0 : af} {l l' : List Int} (h0 : 0 ≤ r0.to_) (h1 : r0.to_ < v.length) (hl : ∀ y, y ∈ l → y ∈ l') (ht : (gi v r0.to_ ||| be r0 v) ≠ gi v r0.to_ → r0.to_ ∈ l') :
  (∀ r, ik v r ∨ hP l r → ik (v.set r0.to_.toNat (gi v r0.to_ ||| be r0 v)) r ∨ hP l' r) ∧ (ik (v.set r0.to_.toNat (gi v r0.to_ ||| be r0 v)) r0 ∨ hP l' r0) := by
 have hlt : r0.to_.toNat < v.length := by omega
 have hcast : ((r0.to_.toNat : Nat) : Int) = r0.to_ := by omega
 by_cases hc : (gi v r0.to_ ||| be r0 v) = gi v r0.to_
 ·have e : v.set r0.to_.toNat (gi v r0.to_ ||| be r0 v) = v := by
   rw [hc]
   have := rZ h0 h1
   rw [← this]
   simp
  rw [e]
  refine ⟨fun r hr => hr.imp id fun hw => hw.imp (hl _) (hl _), .inl ?_⟩
  show dW (gi v r0.to_) (be r0 v)
  rw [← hc]
  exact lQ _ _
 ·have ht := ht hc
  have key : ∀ r, (r.from_ = r0.to_ ∨ r.also = r0.to_) → hP l' r := fun r h => h.elim (fun e => .inl (e ▸ ht)) fun e => .inr (e ▸ ht)
  refine ⟨fun r hr => ?_, ?_⟩
  ·by_cases hin : r.from_ = r0.to_ ∨ r.also = r0.to_
   ·exact .inr (key r hin)
   ·rcases hr with hr | hr
    ·exact .inl (zw h0 h1 (Cg _ _) hr (fun e => hin (.inl e)) fun e => hin (.inr e))
    ·exact .inr (hr.imp (hl _) (hl _))
  ·by_cases hin : r0.from_ = r0.to_ ∨ r0.also = r0.to_
   ·exact .inr (key r0 hin)
   ·refine .inl ?_
    have hg : ∀ j, gi (v.set r0.to_.toNat (gi v r0.to_ ||| be r0 v)) j = if j = r0.to_ then (gi v r0.to_ ||| be r0 v) else gi v j := fun j => by rw [mS v _ _ hlt j, hcast]
    show dW (gi _ r0.to_) (be r0 _)
    rw [jA (v := v.set r0.to_.toNat (gi v r0.to_ ||| be r0 v)) (w := v) (by rw [hg, if_neg fun e => hin (.inl e)]) (by rw [hg, if_neg fun e => hin (.inr e)]), hg, if_pos rfl]
    exact lQ _ _
theorem zx (n : Nat) (hn : n ≤ 65536) (x1 : List (List Int)) (us : List (List Int)) (rs : List af) (x6 : List af) (i0 : Nat) (hrs : ∀ r ∈ rs, 0 ≤ r.to_ ∧ r.to_ < (n : Int)) (hus : ∀ k ∈ us.getD i0 [], ∃ q : Nat, k = (q : Int) ∧ q < rs.length) (hlen : (us.getD i0 []).length ≤ 1000000) :
  ∀ (m i : Nat) (v : List W32) (l : List Int) (tb : List Bool), i + m = (us.getD i0 []).length → v.length = n → WK n l tb →
  ∃ v' l' tb', aZ v x1 us l tb rs x6 i0 (((us.getD i0 []).length : Nat) : Int) (i : Int) = some (v', l', tb') ∧ v'.length = n ∧ WK n l' tb' ∧ (∀ j, dW (gi v' j) (gi v j)) ∧ (∀ w, kR rs n w → (∀ j, dW (gi w j) (gi v j)) → ∀ j, dW (gi w j) (gi v' j)) ∧
   2 * qA v' + l'.length ≤ 2 * qA v + l.length ∧ (∀ r, ik v r ∨ hP l r → ik v' r ∨ hP l' r) ∧ (∀ (q : Nat) (r : af), rs[q]? = some r → (q : Int) ∈ (us.getD i0 []).drop i → ik v' r ∨ hP l' r)
 | 0, i, v, l, tb, h, hv, hw => by
  rw [aZ, iN (by omega)]
  refine ⟨v, l, tb, rfl, hv, hw, fun j => dW.refl _, fun w _ hh => hh, Nat.le_refl _, fun r hr => hr, fun q r _ hq => ?_⟩
  rw [List.drop_eq_nil_of_le (by omega)] at hq
  cases hq
 | m + 1, i, v, l, tb, h, hv, hw => by
  have hi : av (i : Int) 1 = ((i + 1 : Nat) : Int) := by rw [dI (by omega) (by omega)]; omega
  have hlt : i < (us.getD i0 []).length := by omega
  rw [aZ, iP (by omega), iP (by omega), iP (by omega), hi]
  have e : List.getD (us.getD i0 []) (Int.toNat (i : Int)) 0 = (us.getD i0 [])[i] := by
   rw [Int.toNat_natCast]
   exact (List.getD_eq_getElem?_getD ..).trans (by rw [List.getElem?_eq_getElem hlt]; rfl)
  obtain ⟨q, hq1, hq2⟩ := hus _ (List.getElem_mem hlt)
  have hdrop : (us.getD i0 []).drop i = (us.getD i0 [])[i] :: (us.getD i0 []).drop (i + 1) := List.drop_eq_getElem_cons hlt
  rw [hdrop, e, hq1, iP (by omega), iP (by omega)]
  have er : List.getD rs (Int.toNat (q : Int)) ag = rs[q] := by simp [List.getD, hq2]
  rw [er]
  obtain ⟨r0, r1⟩ := hrs _ (List.getElem_mem hq2)
  have r1' : rs[q].to_ < (v.length : Int) := by rw [hv]; exact r1
  rw [yo v us x6 rs[q] r0 r1']
  simp only [bind, Option.bind_some]
  have hx : be rs[q] v ||| gi v rs[q].to_ = gi v rs[q].to_ ||| be rs[q] v := BitVec.or_comm _ _
  obtain ⟨c1, c2, c3⟩ := AY (l := rs) (x := gi v rs[q].to_ ||| be rs[q] v) (List.getElem_mem hq2) r0 r1' hx.symm
  have hlen2 : (v.set rs[q].to_.toNat (gi v rs[q].to_ ||| be rs[q] v)).length = n := by simp [hv]
  have hrq : rs[q]? = some rs[q] := List.getElem?_eq_getElem hq2
  by_cases hc : (gi v rs[q].to_ ||| be rs[q] v) = gi v rs[q].to_
  ·rw [if_neg (by simpa using hc)]
   obtain ⟨d1, d2⟩ := vg (l := l) (l' := l) r0 r1' (fun _ h => h) (fun hh => absurd hc hh)
   have hpe : v.set rs[q].to_.toNat (gi v rs[q].to_ ||| be rs[q] v) = v := by
    rw [hc]
    have := rZ r0 r1'
    rw [← this]; simp
   rw [hpe] at d1 d2 ⊢
   obtain ⟨v', l', tb', q1, q2, q3, q4, q5, q6, q7, q8⟩ := zx n hn x1 us rs x6 i0 hrs hus hlen m (i + 1) v l tb (by omega) hv hw
   refine ⟨v', l', tb', q1, q2, q3, q4, q5, q6, q7, fun k r hk hm => ?_⟩
   rcases List.mem_cons.1 hm with hm | hm
   ·have : k = q := by omega
    subst this
    rw [hrq] at hk
    cases hk
    exact q7 _ d2
   ·exact q8 k r hk hm
  ·rw [if_pos (by simpa using hc)]
   obtain ⟨l1, tb1, a1, a2, a3, a4⟩ := rY hn hw r0 r1
   rw [a1]
   simp only [Option.bind_some]
   obtain ⟨d1, d2⟩ := vg (l := l) (l' := l1) r0 r1' (fun y hy => (a3 y).2 (.inl hy)) (fun _ => (a3 _).2 (.inr rfl))
   have hp := c3 hc
   obtain ⟨v', l', tb', q1, q2, q3, q4, q5, q6, q7, q8⟩ := zx n hn x1 us rs x6 i0 hrs hus hlen m (i + 1) _ l1 tb1 (by omega) hlen2 a2
   refine ⟨v', l', tb', q1, q2, q3, fun j => (q4 j).trans (c1 j), fun w hk hwv => q5 w hk (c2 w (hv ▸ hk) hwv), by omega, fun r hr => q7 r (d1 r hr), fun k r hk hm => ?_⟩
   rcases List.mem_cons.1 hm with hm | hm
   ·have : k = q := by omega
    subst this
    rw [hrq] at hk
    cases hk
    exact q7 _ d2
   ·exact q8 k r hk hm
theorem Dy (n : Nat) (hn : n ≤ 65536) (x1 : List (List Int)) (us : List (List Int)) (rs : List af) (x6 : List af) (hrs : ∀ r ∈ rs, 0 ≤ r.to_ ∧ r.to_ < (n : Int)) (husl : us.length = n) (hus : ∀ i0 : Nat, ∀ k ∈ us.getD i0 [], ∃ q : Nat, k = (q : Int) ∧ q < rs.length) (hlen : ∀ i0 : Nat, (us.getD i0 []).length ≤ 1000000)
  (huse : ∀ (q : Nat) (r : af) (j : Int), rs[q]? = some r → (r.from_ = j ∨ r.also = j) → 0 ≤ j → j < (n : Int) → (q : Int) ∈ us.getD j.toNat []) :
  ∀ (M : Nat) (v : List W32) (l : List Int) (tb : List Bool), 2 * qA v + l.length ≤ M → v.length = n → WK n l tb → (∀ r ∈ rs, ik v r ∨ hP l r) →
  ∃ v', bH v x1 us l tb rs x6 = some v' ∧ v'.length = n ∧ (∀ j, dW (gi v' j) (gi v j)) ∧ (∀ w, kR rs n w → (∀ j, dW (gi w j) (gi v j)) → ∀ j, dW (gi w j) (gi v' j)) ∧ ∀ r ∈ rs, ik v' r
 | M, v, l, tb, hM, hv, hw, hall => by
  rw [bH]
  unfold dh
  simp only [bind, Option.bind_some]
  by_cases h0 : 0 < l.length
  ·rw [iP (by omega)]
   obtain ⟨i, l1, tb1, a1, a2, a3, a4, a5⟩ := Dl hn hw h0
   have hir := hw.rng i a2
   rw [a1]
   simp only [Option.bind_some]
   rw [if_pos (decide_eq_true hir.1), if_pos (decide_eq_true (by rw [husl]; exact hir.2))]
   obtain ⟨v', l', tb', q1, q2, q3, q4, q5, q6, q7, q8⟩ := zx n hn x1 us rs x6 i.toNat hrs (hus _) (hlen _) (us.getD i.toNat []).length 0 v l1 tb1 (Nat.zero_add _) hv a3
   rw [show ((0 : Nat) : Int) = 0 from rfl] at q1
   rw [q1]
   simp only [Option.bind_some]
   have hall' : ∀ r ∈ rs, ik v' r ∨ hP l' r := by
    intro r hr
    obtain ⟨q, hq⟩ := List.getElem?_of_mem hr
    by_cases hin : r.from_ = i ∨ r.also = i
    ·exact q8 q r hq (by rw [List.drop_zero]; exact huse q r i hq hin hir.1 hir.2)
    ·refine q7 r ((hall r hr).imp id fun hwt => ?_)
     rcases hwt with hwt | hwt
     ·exact .inl ((a4 _).2 ⟨hwt, fun e => hin (.inl e)⟩)
     ·exact .inr ((a4 _).2 ⟨hwt, fun e => hin (.inr e)⟩)
   match M, hM with
   | 0, hM => omega
   | M + 1, hM =>
    obtain ⟨v2, b1, b2, b3, b4, b5⟩ := Dy n hn x1 us rs x6 hrs husl hus hlen huse M v' l' tb' (by omega) q2 q3 hall'
    exact ⟨v2, b1, b2, fun j => (b3 j).trans (q4 j), fun w hk hwv => b4 w hk (q5 w hk hwv), b5⟩
  ·rw [iN (by omega)]
   refine ⟨v, rfl, hv, fun j => dW.refl _, fun w _ hh => hh, fun r hr => (hall r hr).resolve_right fun hwt => ?_⟩
   have : l = [] := List.length_eq_zero_iff.1 (by omega)
   subst this
   rcases hwt with h | h <;> cases h
theorem Dz (n : Nat) (hn : n ≤ 65536) (v : List W32) (x1 x2 : List (List Int)) (x5 x6 : List af) : ∀ (m i : Nat) (l : List Int) (tb : List Bool), i + m = n → WK n l tb → 
  ∃ l' tb', bm v x1 x2 l tb x5 x6 (n : Int) (i : Int) = some (l', tb') ∧ WK n l' tb' ∧ (∀ x, x ∈ l' ↔ x ∈ l ∨ ((i : Int) ≤ x ∧ x < (n : Int)))
 | 0, i, l, tb, h, hw => by
  rw [bm, iN (by omega)]
  exact ⟨l, tb, rfl, hw, fun x => ⟨.inl, fun hx => hx.resolve_right (by omega)⟩⟩
 | m + 1, i, l, tb, h, hw => by
  have hi : av (i : Int) 1 = ((i + 1 : Nat) : Int) := by rw [dI (by omega) (by omega)]; omega
  rw [bm, iP (by omega), hi]
  obtain ⟨l1, tb1, a1, a2, a3, a4⟩ := rY hn hw (i := (i : Int)) (by omega) (by omega)
  rw [a1]
  simp only [bind, Option.bind_some]
  obtain ⟨l', tb', b1, b2, b3⟩ := Dz n hn v x1 x2 x5 x6 m (i + 1) l1 tb1 (by omega) a2
  refine ⟨l', tb', b1, b2, fun x => ?_⟩
  rw [b3, a3]
  constructor
  ·rintro ((h | h) | h)
   ·exact .inl h
   ·exact .inr (by omega)
   ·exact .inr (by omega)
  ·rintro (h | h)
   ·exact .inl (.inl h)
   ·by_cases hx : x = (i : Int)
    ·exact .inl (.inr hx)
    ·exact .inr (by omega)
structure jB (n : Nat) (b : List af) (v0 v : List W32) (us : List (List Int)) (l : List Int) (tb : List Bool) (rs : List af) (i : Nat) : Prop where
 vl : v.length = n
 ul : us.length = n
 wk : WK n l tb
 isr : ∀ r, r ∈ rs ↔ r ∈ b.take i ∧ 0 ≤ r.to_ ∧ r.to_ < (n : Int)
 rl : rs.length ≤ i
 isu : ∀ i0 : Nat, ∀ k ∈ us.getD i0 [], ∃ q : Nat, k = (q : Int) ∧ q < rs.length
 un : ∀ i0 : Nat, (us.getD i0 []).length ≤ 2 * i
 use : ∀ (q : Nat) (r : af) (j : Int), rs[q]? = some r → (r.from_ = j ∨ r.also = j) → 0 ≤ j → j < (n : Int) → (q : Int) ∈ us.getD j.toNat []
 down : ∀ j, dW (gi v j) (gi v0 j)
 best : ∀ w, kR b n w → (∀ j, dW (gi w j) (gi v0 j)) → ∀ j, dW (gi w j) (gi v j)
 hold : ∀ r ∈ rs, ((0 ≤ r.from_ ∧ r.from_ < (n : Int)) ∨ (0 ≤ r.also ∧ r.also < (n : Int))) ∨ ik v r
theorem jB.next {n : Nat} {b : List af} {v0 v : List W32} {us : List (List Int)} {l : List Int} {tb : List Bool} {rs : List af} {i : Nat} (h : jB n b v0 v us l tb rs i) (hi : i < b.length) (hn : ¬ (0 ≤ b[i].to_ ∧ b[i].to_ < (n : Int))) : jB n b v0 v us l tb rs (i + 1) where
 vl := h.vl
 ul := h.ul
 wk := h.wk
 isr := fun r => by
  rw [h.isr, ql hi]
  constructor
  ·rintro ⟨h1, h2⟩; exact ⟨.inl h1, h2⟩
  ·rintro ⟨h1 | h1, h2⟩
   ·exact ⟨h1, h2⟩
   ·subst h1; exact absurd h2 hn
 rl := by have := h.rl; omega
 isu := h.isu
 un := fun i0 => by have := h.un i0; omega
 use := h.use
 down := h.down
 best := h.best
 hold := h.hold
theorem jB.rule {n : Nat} {b : List af} {v0 v : List W32} {us : List (List Int)} {l l' : List Int} {tb tb' : List Bool} {rs : List af} {i : Nat} (h : jB n b v0 v us l tb rs i) (hi : i < b.length) (h0 : 0 ≤ b[i].to_) (h1 : b[i].to_ < (n : Int)) (hw : WK n l' tb') :
  jB n b v0 (v.set b[i].to_.toNat (gi v b[i].to_ ||| be b[i] v)) (lf n (lf n us b[i].from_ (rs.length : Int)) b[i].also (rs.length : Int)) l' tb' (rs ++ [b[i]]) (i + 1) := by
 have h1' : b[i].to_ < (v.length : Int) := by rw [h.vl]; exact h1
 have hlt : b[i].to_.toNat < v.length := by omega
 obtain ⟨c1, c2, c3⟩ := AY (l := b) (x := gi v b[i].to_ ||| be b[i] v) (List.getElem_mem hi) h0 h1' (BitVec.or_comm _ _)
 constructor
 ·rw [List.length_set, h.vl]
 ·rw [lh, lh, h.ul]
 ·exact hw
 ·intro r
  rw [List.mem_append, List.mem_singleton, h.isr, ql hi]
  constructor
  ·rintro (⟨h2, h3⟩ | rfl)
   ·exact ⟨.inl h2, h3⟩
   ·exact ⟨.inr rfl, h0, h1⟩
  ·rintro ⟨h2 | h2, h3⟩
   ·exact .inl ⟨h2, h3⟩
   ·exact .inr h2
 ·have := h.rl
  simp; omega
 ·intro i0 k hk
  rcases (qm n us h.ul _ _ _ i0 k).1 hk with hk | ⟨rfl, _⟩
  ·obtain ⟨q, h2, h3⟩ := h.isu i0 k hk
   exact ⟨q, h2, by simp; omega⟩
  ·exact ⟨rs.length, rfl, by simp⟩
 ·intro i0
  have h2 := AI n us h.ul b[i].from_ b[i].also (rs.length : Int) i0
  have h3 := h.un i0
  omega
 ·intro q r j hq hj hj0 hj1
  rw [qm n us h.ul]
  rcases AJ hq with hq | ⟨rfl, rfl⟩
  ·exact .inl (h.use q r j hq hj hj0 hj1)
  ·refine .inr ⟨rfl, ?_⟩
   rcases hj with hj | hj
   ·exact .inl (by rw [hj]; exact ⟨hj0, hj1, rfl⟩)
   ·exact .inr (by rw [hj]; exact ⟨hj0, hj1, rfl⟩)
 ·exact fun j => (c1 j).trans (h.down j)
 ·exact fun w hk hwv => c2 w (h.vl ▸ hk) (h.best w hk hwv)
 ·intro r hr
  by_cases hin : (0 ≤ r.from_ ∧ r.from_ < (n : Int)) ∨ (0 ≤ r.also ∧ r.also < (n : Int))
  ·exact .inl hin
  ·refine .inr ?_
   have e : be r (v.set b[i].to_.toNat (gi v b[i].to_ ||| be b[i] v)) = be r v := uW (by simp) (by rw [List.length_set, h.vl]; exact hin)
   show dW _ _
   rw [e]
   rcases List.mem_append.1 hr with hr | hr
   ·exact (c1 r.to_).trans ((h.hold r hr).resolve_left hin)
   ·rw [List.mem_singleton] at hr
    subst hr
    have hcast : ((b[i].to_.toNat : Nat) : Int) = b[i].to_ := by omega
    have hg := mS v _ (gi v b[i].to_ ||| be b[i] v) hlt b[i].to_
    rw [hg, hcast, if_pos rfl]
    exact lQ _ _
theorem vj (n : Nat) (hn : n ≤ 65536) (x1 : List (List Int)) (b : List af) (hb : b.length ≤ 65536) (v0 : List W32) : ∀ (m i : Nat) (v : List W32) (us : List (List Int)) (l : List Int) (tb : List Bool) (rs : List af), i + m = b.length → jB n b v0 v us l tb rs i →
  ∃ v' us' l' tb' rs', aM v x1 us l tb rs b b (b.length : Int) (i : Int) = some (v', us', l', tb', rs') ∧ jB n b v0 v' us' l' tb' rs' b.length
 | 0, i, v, us, l, tb, rs, h, hf => by
  rw [aM, iN (by omega)]
  have : i = b.length := by omega
  subst this
  exact ⟨v, us, l, tb, rs, rfl, hf⟩
 | m + 1, i, v, us, l, tb, rs, h, hf => by
  have hi : av (i : Int) 1 = ((i + 1 : Nat) : Int) := by rw [dI (by omega) (by omega)]; omega
  have hlt : i < b.length := by omega
  rw [aM, iP (by omega), iP (by omega), iP (by omega), hi]
  have e : List.getD b (Int.toNat (i : Int)) ag = b[i] := by simp [List.getD, hlt]
  rw [e]
  by_cases h0 : b[i].to_ < 0
  ·rw [if_pos (decide_eq_true h0)]
   exact vj n hn x1 b hb v0 m (i + 1) v us l tb rs (by omega) (hf.next hlt (by omega))
  ·rw [if_neg (by simpa using h0)]
   by_cases h1 : b[i].to_ ≥ (v.length : Int)
   ·rw [if_pos (decide_eq_true h1)]
    exact vj n hn x1 b hb v0 m (i + 1) v us l tb rs (by omega) (hf.next hlt (by rw [hf.vl] at h1; omega))
   ·rw [if_neg (by simpa using h1)]
    have h2 := Fk v x1 l tb rs [b[i].from_, b[i].also] b b[i].to_ b[i].from_ b[i].also b[i].keep b[i].if_ b[i].then_ b (b.length : Int) (i : Int) (by simp) 2 0 us rfl (by rw [hf.ul, hf.vl]) (fun j => by have := hf.un j; omega)
    rw [show ((0 : Nat) : Int) = 0 from rfl] at h2
    rw [h2]
    simp only [bind, Option.bind_some, List.drop_zero, List.foldl_cons, List.foldl_nil]
    rw [if_pos (Nat.ble_eq_true_of_le (by have := hf.rl; simp only [List.length_singleton, aK]; omega))]
    have g0 : 0 ≤ b[i].to_ := by omega
    have g1 : b[i].to_ < (v.length : Int) := by omega
    have g2 : b[i].to_ < (n : Int) := by rw [← hf.vl]; exact g1
    rw [yo v _ b b[i] g0 g1, hf.vl]
    simp only [Option.bind_some]
    by_cases hc : (gi v b[i].to_ ||| be b[i] v) = gi v b[i].to_
    ·rw [if_neg (by simpa using hc)]
     exact vj n hn x1 b hb v0 m (i + 1) _ _ l tb _ (by omega) (hf.rule hlt g0 g2 hf.wk)
    ·rw [if_pos (by simpa using hc)]
     obtain ⟨l1, tb1, a1, a2, a3, a4⟩ := rY hn hf.wk g0 g2
     rw [a1]
     simp only [Option.bind_some]
     exact vj n hn x1 b hb v0 m (i + 1) _ _ l1 tb1 _ (by omega) (hf.rule hlt g0 g2 a2)
theorem jB.start (v0 : List W32) (b : List af) : jB v0.length b v0 v0 (List.replicate v0.length []) [] (List.replicate v0.length false) [] 0 where
 vl := rfl
 ul := by simp
 wk := ⟨by simp, by simp, by simp, fun i hi => by simp [List.getD, List.getElem?_replicate, hi]⟩
 isr := fun r => by simp
 rl := Nat.le_refl _
 isu := fun i0 k hk => by rw [qn] at hk; cases hk
 un := fun i0 => by rw [qn]; simp
 use := fun q r j hq => by simp at hq
 down := fun j => dW.refl _
 best := fun w _ h => h
 hold := fun r hr => by cases hr
theorem En (v0 : List W32) (x1 : List (List Int)) (b : List af) (hv : v0.length ≤ 65536) (hb : b.length ≤ 65536) : ∃ v us, eV v0 x1 b = some (v, us) ∧ Lfp b v0 v := by
 unfold eV
 rw [iP (by omega), if_pos (decide_eq_true (by simp only [aK]; omega)), if_pos (decide_eq_true (by simp only [aK]; omega))]
 rw [show Int.toNat ((v0.length : Nat) : Int) = v0.length by omega]
 obtain ⟨v, us, l, tb, rs, h1, hf⟩ := vj v0.length hv x1 b hb v0 b.length 0 v0 _ _ _ _ (by omega) (jB.start v0 b)
 rw [show ((0 : Nat) : Int) = 0 from rfl] at h1
 rw [h1]
 simp only [bind, Option.bind_some]
 obtain ⟨l', tb', h2, h3, h4⟩ := Dz v0.length hv v x1 us rs b v0.length 0 l tb (by omega) hf.wk
 rw [show ((0 : Nat) : Int) = 0 from rfl] at h2
 rw [hf.vl, h2]
 simp only [Option.bind_some]
 obtain ⟨v', q1, q2, q3, q4, q5⟩ := Dy v0.length hv x1 us rs b (fun r hr => ((hf.isr r).1 hr).2) hf.ul hf.isu (fun i0 => by have := hf.un i0; omega) hf.use _ v l' tb' (Nat.le_refl _) hf.vl h3 (fun r hr => by
  rcases hf.hold r hr with (h | h) | h
  ·exact .inr (.inl ((h4 _).2 (.inr (by omega))))
  ·exact .inr (.inr ((h4 _).2 (.inr (by omega))))
  ·exact .inl h)
 rw [q1]
 refine ⟨v', us, rfl, q2, fun j => (q3 j).trans (hf.down j), fun w hk hwv => q4 w (fun r hr => hk r (List.mem_of_mem_take ((hf.isr r).1 hr).1)) (hf.best w hk hwv), fun r hr a0 a1 => ?_⟩
 exact q5 r ((hf.isr r).2 ⟨by rw [List.take_length]; exact hr, a0, a1⟩)
theorem Fm (n : Int) (b : List af) (hb : b.length ≤ 65536) : ∃ v, mj n b = some v ∧ Lfp b (if 0 ≤ n ∧ n ≤ 65536 then List.replicate n.toNat 0#32 else []) v := by
 unfold mj
 have hz : jU 0 = some 0#32 := by kernel_rfl
 rw [hz]
 simp only [bind, Option.bind_some]
 rw [AG]
 simp only [Option.bind_some]
 obtain ⟨v, us, h1, h2⟩ := En (if 0 ≤ n ∧ n ≤ 65536 then List.replicate n.toNat 0#32 else []) [] b (by split <;> simp; omega) hb
 rw [h1]
 exact ⟨v, rfl, h2⟩
def base (fs : FS) : Nat → Nat
 | 0 => 0
 | f + 1 => base fs f + (2 + (List.getD fs f []).length)
theorem oj {p : ad} (hg : bo p) : ∀ f, base p.funcs f ≤ 66 * f
 | 0 => Nat.le_refl _
 | f + 1 => by
  have h1 := oj hg f
  have h2 := hg.le f
  rw [base]
  omega
theorem ol (fs : FS) : ∀ {f g : Nat}, f < g → base fs f + 2 + (List.getD fs f []).length ≤ base fs g
 | f, 0, h => by omega
 | f, g + 1, h => by
  rw [base]
  rcases Nat.lt_or_ge f g with h1 | h1
  ·have := ol fs h1; omega
  ·have : f = g := by omega
   subst this; omega
structure ia (p : ad) (bs : List Int) : Prop where
 len : bs.length = p.funcs.length
 get : ∀ f, f < p.funcs.length → List.getD bs f 0 = (base p.funcs f : Int)
theorem Fn (p : ad) (hg : bo p) (x0 : List Int) : ∀ (m f : Nat) (bs : List Int), f + m = p.funcs.length → bs.length = f → (∀ g, g < f → List.getD bs g 0 = (base p.funcs g : Int)) → ∃ bs', fL x0 bs (base p.funcs f : Int) p.funcs (p.funcs.length : Int) (f : Int) = some (bs', (base p.funcs p.funcs.length : Int)) ∧ ia p bs'
 | 0, f, bs, h, hb, hget => by
  rw [fL, iN (by omega)]
  have : f = p.funcs.length := by omega
  subst this
  exact ⟨bs, rfl, hb, hget⟩
 | m + 1, f, bs, h, hb, hget => by
  have h1 := hg.funcs
  have h2 := hg.le f
  have h3 := oj hg f
  rw [fL, iP (by omega), iP (by omega), iP (by omega), if_pos (Nat.ble_eq_true_of_le (by simp only [List.length_singleton, aK]; omega)), Int.toNat_natCast, inc f (by omega)]
  have e : av (base p.funcs f : Int) (av 2 ((List.getD p.funcs f []).length : Int)) = (base p.funcs (f + 1) : Int) := by
   rw [dI (a := 2) (by omega) (by omega), dI (by omega) (by omega), base]
   omega
  rw [e]
  refine Fn p hg x0 m (f + 1) _ (by omega) (by simp [hb]) fun g hgf => ?_
  rw [ic]
  split
  ·rename_i e; subst e; rw [hb]
  ·exact hget g (by omega)
theorem zy (p : ad) (hg : bo p) : ∃ bs, jS p = some ((base p.funcs p.funcs.length : Int), bs) ∧ ia p bs := by
 obtain ⟨bs, q1, q2⟩ := Fn p hg [] p.funcs.length 0 [] (Nat.zero_add _) rfl (fun g h => by omega)
 unfold jS
 rw [show (base p.funcs 0 : Int) = 0 from rfl, show ((0 : Nat) : Int) = 0 from rfl] at q1
 rw [bind_some q1]
 exact ⟨bs, rfl, q2⟩
theorem gF {p : ad} {bs : List Int} (hb : ia p bs) {f : Nat} (hf : f < p.funcs.length) : aX ⟨bs⟩ (f : Int) = some (base p.funcs f : Int) := by
 have h1 := hb.len
 unfold aX
 rw [iP (by omega), if_pos (decide_eq_true (by show (f : Int) < (bs.length : Int); omega)), Int.toNat_natCast]
 exact congrArg some (hb.get f hf)
theorem om {p : ad} (hg : bo p) {bs : List Int} (hb : ia p bs) {f : Nat} (hf : f < p.funcs.length) : bS ⟨bs⟩ (f : Int) = some ((base p.funcs f + 1 : Nat) : Int) := by
 have h1 := hb.len
 have h2 := oj hg f
 have h3 := hg.funcs
 unfold bS
 rw [iP (by omega), if_pos (decide_eq_true (by show (f : Int) < (bs.length : Int); omega)), Int.toNat_natCast]
 show some (av (List.getD bs f 0) 1) = _
 rw [hb.get f hf, inc _ (by omega)]
theorem kz {p : ad} (hg : bo p) {bs : List Int} (hb : ia p bs) {f : Nat} (hf : f < p.funcs.length) {i : Int} (h0 : 0 ≤ i) (h1 : i ≤ 65536) : a9 ⟨bs⟩ (f : Int) i = some ((base p.funcs f + 2 + i.toNat : Nat) : Int) := by
 have h2 := hb.len
 have h3 := oj hg f
 have h4 := hg.funcs
 unfold a9
 rw [iP (by omega), if_pos (decide_eq_true (by show (f : Int) < (bs.length : Int); omega)), Int.toNat_natCast]
 show some (av (av (List.getD bs f 0) 2) i) = _
 rw [hb.get f hf, dI (a := (base p.funcs f : Int)) (by omega) (by omega), dI (by omega) (by omega)]
 congr 1
 omega
abbrev i5 : W32 := 4294967295#32
def vk (fs : FS) (f : Nat) (js : List Int) (own also : Int) (keep then_ : W32) : List af := js.map fun y => ⟨((base fs f + 2 + y.toNat : Nat) : Int), own, also, keep, 0#32, then_⟩
def qB (p : ad) (u : List W32) (f i : Nat) : List af :=
 let own : Int := ((base p.funcs f + 2 + i : Nat) : Int)
 let js := succ (nde p f i)
 if (nde p f i).kind = 3 then vk p.funcs f js own (-1) i5 (one (nde p f i).arg)
 else if (nde p f i).kind = 4 then vk p.funcs f js own (-1) (~~~(one (nde p f i).arg)) 0#32
 else if (nde p f i).kind = 7 then ⟨(base p.funcs (nde p f i).arg.toNat : Int), own, -1, i5, 0#32, 0#32⟩ :: vk p.funcs f js own ((base p.funcs (nde p f i).arg.toNat + 1 : Nat) : Int) (~~~(List.getD u (nde p f i).arg.toNat 0#32)) 0#32
 else if (nde p f i).kind = 9 then ⟨((base p.funcs f + 1 : Nat) : Int), own, -1, i5, 0#32, 0#32⟩ :: vk p.funcs f js own (-1) i5 0#32
 else vk p.funcs f js own (-1) i5 0#32
theorem Fo (fs : FS) (f : Nat) (x : ac) (own also : Int) (keep then_ : W32) : (vk fs f (succ x) own also keep then_).length ≤ 2 := by
 unfold vk
 rw [List.length_map]
 exact ld x
theorem yv (p : ad) (u : List W32) (f i : Nat) : (qB p u f i).length ≤ 3 := by
 have h := Fo p.funcs f (nde p f i)
 unfold qB
 simp only []
 split
 ·exact Nat.le_succ_of_le (h _ _ _ _)
 ·split
  ·exact Nat.le_succ_of_le (h _ _ _ _)
  ·split
   ·rw [List.length_cons]; exact Nat.succ_le_succ (h _ _ _ _)
   ·split
    ·rw [List.length_cons]; exact Nat.succ_le_succ (h _ _ _ _)
    ·exact Nat.le_succ_of_le (h _ _ _ _)
theorem oo (l1 : List Int) (l2 : List W32) (l3 : List af) (b0 b01 b02 : Int) (b03 : FS) (r : af) (h : l3.length ≤ 65536) : ci l1 l2 l3 b0 b01 b02 b03 r = some (l3 ++ [r]) := by
 unfold ci
 rw [if_pos (Nat.ble_eq_true_of_le (by simp only [List.length_singleton, aK]; omega))]
theorem yw (p : ad) (hg : bo p) (bs : List Int) (hb : ia p bs) (x1 : List W32) (js : List Int) (hj : js.length ≤ 2) (hjr : ∀ y ∈ js, 0 ≤ y ∧ y ≤ 65536) (x4 x5 x6 : Int) (x7 : FS) (own also : Int) (keep th : W32) (f : Nat) (hf : f < p.funcs.length) : ∀ (m k : Nat) (out : List af) (to : Int), k + m = js.length → out.length + m ≤ 65536 → aQ bs x1 out js x4 x5 x6 x7 to own also keep 0#32 th (f : Int) (js.length : Int) (k : Int) = some (out ++ vk p.funcs f (js.drop k) own also keep th)
 | 0, k, out, to, h, ho => by
  rw [aQ, iN (by omega), List.drop_eq_nil_of_le (by omega)]
  simp [vk]
 | m + 1, k, out, to, h, ho => by
  have hlt : k < js.length := by omega
  have hg1 : List.getD js k 0 = js[k] := by simp [List.getD, hlt]
  have hr := hjr _ (List.getElem_mem hlt)
  rw [aQ, iP (by omega), iP (by omega), iP (by omega), Int.toNat_natCast, hg1, bind_some (kz hg hb hf hr.1 hr.2), bind_some (oo _ _ _ _ _ _ _ _ (by omega)), inc k (by omega), yw p hg bs hb x1 js hj hjr x4 x5 x6 x7 own also keep th f hf m (k + 1) _ _ (by omega) (by rw [List.length_append, List.length_singleton]; omega), List.append_assoc, List.singleton_append, List.drop_eq_getElem_cons hlt]
  rfl
theorem Cp (p : ad) (hg : bo p) (bs : List Int) (hb : ia p bs) (u : List W32) (hu : u.length = p.funcs.length) (out : List af) (ho : out.length + 3 ≤ 65536) (b0 b01 b02 : Int) (f i : Nat) (hf : f < p.funcs.length) (hi : i < (List.getD p.funcs f []).length) : gl bs u out b0 b01 b02 p.funcs (f : Int) (i : Int) = some (out ++ qB p u f i) := by
 have hok := hg.node f i hf hi
 have hle := hg.le f
 have hjr := oc hok (by omega)
 have hjr' : ∀ y ∈ succ (nde p f i), 0 ≤ y ∧ y ≤ 65536 := fun y hy => by have := hjr y hy; omega
 have hsl := ld (nde p f i)
 have go := fun (own also : Int) (keep th : W32) (o : List af) (h : o.length + 2 ≤ 65536) => yw p hg bs hb u (succ (nde p f i)) hsl hjr' b0 b01 b02 p.funcs own also keep th f hf _ 0 o 0 (Nat.zero_add _) (by omega)
 have hc := hok.call
 unfold gl
 rw [iP (by omega), iP (by omega), iP (by omega), Int.toNat_natCast f, iP (by omega), Int.toNat_natCast i, bind_some (kz hg hb hf (i := (i : Int)) (by omega) (by omega)), Int.toNat_natCast i]
 unfold qB
 simp only []
 by_cases h3 : (nde p f i).kind = 3
 ·rw [if_pos (eqT h3), if_pos h3, bind_some (fB _), bind_some (fO _)]
  have q := go ((base p.funcs f + 2 + i : Nat) : Int) (-1) i5 (one (nde p f i).arg) out (by omega)
  rw [show ((0 : Nat) : Int) = 0 from rfl, List.drop_zero] at q
  rw [bind_some q]
 rw [if_neg (eqF h3), if_neg h3]
 by_cases h4 : (nde p f i).kind = 4
 ·rw [if_pos (eqT h4), if_pos h4, bind_some (fB _), bind_some (fO _)]
  have q := go ((base p.funcs f + 2 + i : Nat) : Int) (-1) (~~~(one (nde p f i).arg)) 0#32 out (by omega)
  rw [show ((0 : Nat) : Int) = 0 from rfl, List.drop_zero] at q
  rw [bind_some q]
 rw [if_neg (eqF h4), if_neg h4]
 by_cases h7 : (nde p f i).kind = 7
 ·have ha := hc h7
  obtain ⟨a, ha2⟩ : ∃ a : Nat, (List.getD (List.getD p.funcs f []) i ae).arg = (a : Int) := ⟨(List.getD (List.getD p.funcs f []) i ae).arg.toNat, by omega⟩
  rw [ha2] at ha
  rw [if_pos (eqT h7), if_pos h7, ha2, Int.toNat_natCast a, bind_some (gF hb (by omega)), bind_some (oo _ _ _ _ _ _ _ _ (by omega)), iP (by omega), iP (by omega), bind_some (om hg hb (by omega)), bind_some (fO _)]
  have q := go ((base p.funcs f + 2 + i : Nat) : Int) ((base p.funcs a + 1 : Nat) : Int) (~~~(List.getD u a 0#32)) 0#32 (out ++ [⟨(base p.funcs a : Int), ((base p.funcs f + 2 + i : Nat) : Int), -1, i5, 0#32, 0#32⟩]) (by rw [List.length_append, List.length_singleton]; omega)
  rw [show ((0 : Nat) : Int) = 0 from rfl, List.drop_zero, List.append_assoc, List.singleton_append] at q
  rw [bind_some q]
 rw [if_neg (eqF h7), if_neg h7]
 by_cases h9 : (nde p f i).kind = 9
 ·rw [if_pos (eqT h9), if_pos h9, bind_some (om hg hb hf), bind_some (oo _ _ _ _ _ _ _ _ (by omega)), bind_some (fO _)]
  have q := go ((base p.funcs f + 2 + i : Nat) : Int) (-1) i5 0#32 (out ++ [⟨((base p.funcs f + 1 : Nat) : Int), ((base p.funcs f + 2 + i : Nat) : Int), -1, i5, 0#32, 0#32⟩]) (by rw [List.length_append, List.length_singleton]; omega)
  rw [show ((0 : Nat) : Int) = 0 from rfl, List.drop_zero, List.append_assoc, List.singleton_append] at q
  rw [bind_some q]
 ·rw [if_neg (eqF h9), if_neg h9, bind_some (fO _)]
  have q := go ((base p.funcs f + 2 + i : Nat) : Int) (-1) i5 0#32 out (by omega)
  rw [show ((0 : Nat) : Int) = 0 from rfl, List.drop_zero] at q
  rw [bind_some q]
def jC (p : ad) (u : List W32) (f : Nat) : Nat → Nat → List af
 | _, 0 => []
 | i, m + 1 => qB p u f i ++ jC p u f (i + 1) m
theorem vn (p : ad) (u : List W32) (f : Nat) : ∀ (m i : Nat), (jC p u f i m).length ≤ 3 * m
 | 0, i => Nat.zero_le _
 | m + 1, i => by
  have h1 := vn p u f m (i + 1)
  have h2 := yv p u f i
  rw [jC, List.length_append]
  omega
theorem lU {p : ad} {u : List W32} {f : Nat} {r : af} : ∀ {m i : Nat}, r ∈ jC p u f i m ↔ ∃ k, i ≤ k ∧ k < i + m ∧ r ∈ qB p u f k
 | 0, i => by
  rw [jC]
  exact ⟨(fun h => by cases h), fun ⟨k, h1, h2, _⟩ => by omega⟩
 | m + 1, i => by
  rw [jC, List.mem_append, lU]
  constructor
  ·rintro (h | ⟨k, h1, h2, h3⟩)
   ·exact ⟨i, Nat.le_refl _, by omega, h⟩
   ·exact ⟨k, by omega, by omega, h3⟩
  ·rintro ⟨k, h1, h2, h3⟩
   rcases Nat.eq_or_lt_of_le h1 with rfl | h4
   ·exact .inl h3
   ·exact .inr ⟨k, h4, by omega, h3⟩
theorem sa (p : ad) (hg : bo p) (bs : List Int) (hb : ia p bs) (u : List W32) (hu : u.length = p.funcs.length) (x3 x4 x5 : Int) (x7 : W32) (f : Nat) (hf : f < p.funcs.length) (x9 : FS) (x10 x11 : Int) : ∀ (m i : Nat) (out : List af), i + m = (List.getD p.funcs f []).length → out.length + 3 * m ≤ 65000 → dq bs u out x3 x4 x5 p.funcs x7 (f : Int) x9 x10 x11 ((List.getD p.funcs f []).length : Int) (i : Int) = some (out ++ jC p u f i m)
 | 0, i, out, h, ho => by
  rw [dq, iN (by omega)]
  simp [jC]
 | m + 1, i, out, h, ho => by
  have h1 := yv p u f i
  have hle := hg.le f
  rw [dq, iP (by omega), bind_some (Cp p hg bs hb u hu out (by omega) x3 x4 x5 f i hf (by omega)), inc i (by omega), sa p hg bs hb u hu x3 x4 x5 x7 f hf x9 x10 x11 m (i + 1) _ (by omega) (by rw [List.length_append]; omega), jC, List.append_assoc]
def AZ (p : ad) (fm : W32) (f : Nat) : List af := if fm.getLsbD f = true then [⟨(base p.funcs f : Int), -1, -1, 0#32, 0#32, 0#32⟩] else []
def m0 (p : ad) (u : List W32) (fm : W32) (f : Nat) : List af := AZ p fm f ++ (⟨((base p.funcs f + 2 + 0 : Nat) : Int), (base p.funcs f : Int), -1, i5, 0#32, 0#32⟩ :: jC p u f 0 (List.getD p.funcs f []).length)
theorem yx {p : ad} (hg : bo p) (u : List W32) (fm : W32) (f : Nat) : (m0 p u fm f).length ≤ 194 := by
 have h1 := vn p u f (List.getD p.funcs f []).length 0
 have h2 := hg.le f
 unfold m0 AZ
 rw [List.length_append, List.length_cons]
 split
 ·rw [List.length_singleton]; omega
 ·rw [List.length_nil]; omega
def ff (p : ad) (u : List W32) (fm : W32) : Nat → Nat → List af
 | _, 0 => []
 | f, m + 1 => m0 p u fm f ++ ff p u fm (f + 1) m
theorem vr {p : ad} (hg : bo p) (u : List W32) (fm : W32) : ∀ (m f : Nat), (ff p u fm f m).length ≤ 194 * m
 | 0, f => Nat.zero_le _
 | m + 1, f => by
  have h1 := vr hg u fm m (f + 1)
  have h2 := yx hg u fm f
  rw [ff, List.length_append]
  omega
theorem lV {p : ad} {u : List W32} {fm : W32} {r : af} : ∀ {m f : Nat}, r ∈ ff p u fm f m ↔ ∃ k, f ≤ k ∧ k < f + m ∧ r ∈ m0 p u fm k
 | 0, f => by
  rw [ff]
  exact ⟨(fun h => by cases h), fun ⟨k, h1, h2, _⟩ => by omega⟩
 | m + 1, f => by
  rw [ff, List.mem_append, lV]
  constructor
  ·rintro (h | ⟨k, h1, h2, h3⟩)
   ·exact ⟨f, Nat.le_refl _, by omega, h⟩
   ·exact ⟨k, by omega, by omega, h3⟩
  ·rintro ⟨k, h1, h2, h3⟩
   rcases Nat.eq_or_lt_of_le h1 with rfl | h4
   ·exact .inl h3
   ·exact .inr ⟨k, h4, by omega, h3⟩
theorem A0 (p : ad) (hg : bo p) (bs : List Int) (hb : ia p bs) (u : List W32) (hu : u.length = p.funcs.length) (x3 x4 x5 : Int) (fm : W32) : ∀ (m f : Nat) (out : List af), f + m = p.funcs.length → out.length + 194 * m ≤ 60000 → dQ bs u out x3 x4 x5 p.funcs fm p.funcs (p.funcs.length : Int) (f : Int) = some (out ++ ff p u fm f m)
 | 0, f, out, h, ho => by
  rw [dQ, iN (by omega)]
  simp [ff]
 | m + 1, f, out, h, ho => by
  have hn := hg.funcs
  have hle := hg.le f
  have hfl := yx hg u fm f
  have h0 := kz hg hb (f := f) (by omega) (i := 0) (Int.le_refl _) (by omega)
  rw [show (0 : Int).toNat = 0 from rfl] at h0
  have ih := A0 p hg bs hb u hu x3 x4 x5 fm m (f + 1) (out ++ m0 p u fm f) (by omega) (by rw [List.length_append]; omega)
  rw [dQ, iP (by omega), iP (by omega), iP (by omega), bind_some (show cH fm (f : Int) = some (fm.getLsbD f) by rw [mQ, if_pos (by omega), Int.toNat_natCast]), Int.toNat_natCast f, inc f (by omega)]
  unfold m0 AZ at ih
  by_cases hfm : fm.getLsbD f = true
  ·rw [if_pos hfm] at ih
   have q := sa p hg bs hb u hu x3 x4 x5 fm f (by omega) p.funcs (p.funcs.length : Int) (f : Int) (List.getD p.funcs f []).length 0 (out ++ [⟨(base p.funcs f : Int), -1, -1, 0#32, 0#32, 0#32⟩] ++ [⟨((base p.funcs f + 2 + 0 : Nat) : Int), (base p.funcs f : Int), -1, i5, 0#32, 0#32⟩]) (Nat.zero_add _) (by simp only [List.length_append, List.length_singleton]; omega)
   rw [show ((0 : Nat) : Int) = 0 from rfl] at q
   rw [if_pos hfm, bind_some (gF hb (by omega)), bind_some (oo _ _ _ _ _ _ _ _ (by omega)), bind_some h0, bind_some (gF hb (by omega)), bind_some (oo _ _ _ _ _ _ _ _ (by rw [List.length_append, List.length_singleton]; omega))]
   rw [bind_some q, show ∀ (E N : af) (t : List af), out ++ [E] ++ [N] ++ t = out ++ ([E] ++ N :: t) from fun E N t => by simp]
   refine ih.trans ?_
   rw [ff]
   unfold m0 AZ
   rw [if_pos hfm, List.append_assoc]
  ·rw [if_neg hfm] at ih
   have q := sa p hg bs hb u hu x3 x4 x5 fm f (by omega) p.funcs (p.funcs.length : Int) (f : Int) (List.getD p.funcs f []).length 0 (out ++ [⟨((base p.funcs f + 2 + 0 : Nat) : Int), (base p.funcs f : Int), -1, i5, 0#32, 0#32⟩]) (Nat.zero_add _) (by simp only [List.length_append, List.length_singleton]; omega)
   rw [show ((0 : Nat) : Int) = 0 from rfl] at q
   rw [if_neg hfm, bind_some h0, bind_some (gF hb (by omega)), bind_some (oo _ _ _ _ _ _ _ _ (by omega))]
   rw [bind_some q, show ∀ (N : af) (t : List af), out ++ [N] ++ t = out ++ ([] ++ N :: t) from fun N t => by simp]
   refine ih.trans ?_
   rw [ff]
   unfold m0 AZ
   rw [if_neg hfm, List.append_assoc]
structure yy (p : ad) (u : List W32) (fm : W32) : Prop where
 ul : u.length = p.funcs.length
 unl : eG p = some (0, u)
 beg : ∃ x, gA p = some x ∧ fm = x ||| one 0
theorem Fp (p : ad) (hg : bo p) {u : List W32} {fm : W32} (h : yy p u fm) : jT p = some (0, ff p u fm 0 p.funcs.length) := by
 have hn := hg.funcs
 obtain ⟨bs, b1, b2⟩ := zy p hg
 obtain ⟨x, x1, rfl⟩ := h.beg
 have q := A0 p hg bs b2 u h.ul p.globals p.locks p.slots (x ||| one 0) p.funcs.length 0 [] (Nat.zero_add _) (by rw [List.length_nil]; omega)
 rw [show ((0 : Nat) : Int) = 0 from rfl, List.nil_append] at q
 unfold jT
 rw [bind_some h.unl, if_neg (show ¬ ((0 : Int) != 0) = true by decide), bind_some b1, bind_some x1, bind_some (fB 0), bind_some q]
theorem He (p : ad) (hg : bo p) (hk : aH p = some (0, 0, 0)) : ∃ u fm, yy p u fm := by
 obtain ⟨u, u1, u2, _⟩ := B7 p hg hk
 obtain ⟨x, x1, _⟩ := EZ p hg
 exact ⟨u, x ||| one 0, u2, u1, x, x1, rfl⟩
structure Cq (p : ad) (l : List ab) (w : List W32) : Prop where
 len : w.length = base p.funcs p.funcs.length
 ent : ∀ f, f < p.funcs.length → gi w (base p.funcs f : Int) = (sec l f).entry
 exi : ∀ f, f < p.funcs.length → gi w ((base p.funcs f + 1 : Nat) : Int) = (sec l f).exit
 nod : ∀ f i, f < p.funcs.length → i < (List.getD p.funcs f []).length → gi w ((base p.funcs f + 2 + i : Nat) : Int) = hld l f i
theorem m6 (w : List W32) : gi w (-1) = 0#32 := by
 unfold gi
 rw [if_neg (by omega)]
theorem qC {w : List W32} {to own also : Int} {keep th X : W32} (hX : ((gi w own &&& keep) ||| gi w also) ||| th = X) : be ⟨to, own, also, keep, 0#32, th⟩ w = X := by
 unfold be
 rw [if_pos (.inl rfl)]
 exact hX
theorem zz (a : W32) : a &&& i5 = a := by
 apply BitVec.eq_of_getLsbD_eq
 intro i hi
 rw [show i5 = BitVec.allOnes 32 from rfl, BitVec.getLsbD_and, BitVec.getLsbD_allOnes]
 simp [hi]
theorem gG (w : List W32) (own : Int) : ((gi w own &&& i5) ||| gi w (-1)) ||| 0#32 = gi w own := by
 rw [m6, zz]; simp
theorem eA {p : ad} {f k : Nat} (hf : f < p.funcs.length) (hk : k < 2 + (List.getD p.funcs f []).length) : base p.funcs f + k < base p.funcs p.funcs.length := by
 have := ol p.funcs hf
 omega
theorem lw {p : ad} {l : List ab} {w : List W32} (hL : Cq p l w) {f : Nat} (hf : f < p.funcs.length) {js : List Int} (hj : ∀ y ∈ js, 0 ≤ y ∧ y < ((List.getD p.funcs f []).length : Int)) {own also : Int} {keep th X : W32} (hX : ((gi w own &&& keep) ||| gi w also) ||| th = X) :
  (∀ r ∈ vk p.funcs f js own also keep th, 0 ≤ r.to_ → r.to_ < (base p.funcs p.funcs.length : Int) → sub (gi w r.to_) (be r w)) ↔ js.all (fun y => bF (hld l f y.toNat) X) = true := by
 rw [List.all_eq_true]
 constructor
 ·intro h y hy
  have hr := hj y hy
  have hb := eA (p := p) hf (k := 2 + y.toNat) (by omega)
  have := h _ (List.mem_map.2 ⟨y, hy, rfl⟩) (by show (0 : Int) ≤ ((_ : Nat) : Int); omega) (by show ((base p.funcs f + 2 + y.toNat : Nat) : Int) < _; omega)
  rw [qC hX] at this
  rw [show (gi w ((base p.funcs f + 2 + y.toNat : Nat) : Int)) = hld l f y.toNat from hL.nod f _ hf (by omega)] at this
  exact ey.2 this
 ·intro h r hr _ _
  obtain ⟨y, hy, rfl⟩ := List.mem_map.1 hr
  have hr := hj y hy
  rw [qC hX]
  show sub (gi w ((base p.funcs f + 2 + y.toNat : Nat) : Int)) X
  rw [hL.nod f _ hf (by omega)]
  exact ey.1 (h y hy)
theorem oq {N : Nat} {w : List W32} {to own also : Int} {keep th X Y : W32} (h0 : 0 ≤ to) (h1 : to < (N : Int)) (hX : ((gi w own &&& keep) ||| gi w also) ||| th = X) (hY : gi w to = Y) : (0 ≤ to → to < (N : Int) → sub (gi w to) (be ⟨to, own, also, keep, 0#32, th⟩ w)) ↔ bF Y X = true := by
 rw [qC hX, hY]
 exact ⟨fun h => ey.2 (h h0 h1), fun h _ _ => ey.1 h⟩
theorem Eo {p : ad} {l : List ab} {u : List W32} {f i : Nat} : jz p l u f i = 0 ↔ ((nde p f i).kind = 7 → bF (sec l (nde p f i).arg.toNat).entry (hld l f i) = true) ∧ ((nde p f i).kind = 9 → bF (sec l f).exit (hld l f i) = true) ∧ (succ (nde p f i)).all (fun y => bF (hld l f y.toNat) (bhd u l (nde p f i) (hld l f i))) = true :=
 ⟨Cb, fun ⟨h1, h2, h3⟩ => by rw [qh h1 h2, if_pos h3]⟩
theorem vt {p : ad} (hg : bo p) {l : List ab} {w u : List W32} (hL : Cq p l w) {f i : Nat} (hf : f < p.funcs.length) (hi : i < (List.getD p.funcs f []).length) :
  (∀ r ∈ qB p u f i, 0 ≤ r.to_ → r.to_ < (base p.funcs p.funcs.length : Int) → sub (gi w r.to_) (be r w)) ↔ jz p l u f i = 0 := by
 have hok := hg.node f i hf hi
 have hjr := oc hok (by omega)
 have hown := hL.nod f i hf hi
 have hc : (nde p f i).kind = 7 → 0 ≤ (nde p f i).arg ∧ (nde p f i).arg < p.funcs.length := hok.call
 rw [Eo]
 unfold qB bhd
 simp only []
 by_cases h3 : (nde p f i).kind = 3
 ·rw [if_pos h3, if_pos h3, lw hL hf hjr (X := hld l f i ||| one (nde p f i).arg) (by rw [m6, zz, hown]; simp)]
  exact ⟨fun h => ⟨fun h7 => by omega, fun h9 => by omega, h⟩, fun h => h.2.2⟩
 rw [if_neg h3, if_neg h3]
 by_cases h4 : (nde p f i).kind = 4
 ·rw [if_pos h4, if_pos h4, lw hL hf hjr (X := hld l f i &&& ~~~(one (nde p f i).arg)) (by rw [m6, hown]; simp)]
  exact ⟨fun h => ⟨fun h7 => by omega, fun h9 => by omega, h⟩, fun h => h.2.2⟩
 rw [if_neg h4, if_neg h4]
 by_cases h7 : (nde p f i).kind = 7
 ·have ha := hc h7
  have hb := eA (p := p) (f := (nde p f i).arg.toNat) (by omega) (k := 0) (by omega)
  rw [if_pos h7, if_pos h7, List.forall_mem_cons, oq (by omega) (by omega) (gG w _) (hL.ent _ (by omega)), hown, lw hL hf hjr (X := (hld l f i &&& ~~~(List.getD u (nde p f i).arg.toNat 0#32)) ||| (sec l (nde p f i).arg.toNat).exit) (by rw [hown, hL.exi _ (by omega)]; simp)]
  exact ⟨fun h => ⟨fun _ => h.1, fun h9 => by omega, h.2⟩, fun h => ⟨h.1 h7, h.2.2⟩⟩
 rw [if_neg h7, if_neg h7]
 by_cases h9 : (nde p f i).kind = 9
 ·have hb := eA (p := p) hf (k := 1) (by omega)
  rw [if_pos h9, List.forall_mem_cons, oq (by omega) (by omega) (gG w _) (hL.exi _ hf), lw hL hf hjr (X := hld l f i) (by rw [gG, hown]), hown]
  exact ⟨fun h => ⟨fun h => absurd h h7, fun _ => h.1, h.2⟩, fun h => ⟨h.2.1 h9, h.2.2⟩⟩
 ·rw [if_neg h9, lw hL hf hjr (X := hld l f i) (by rw [gG, hown])]
  exact ⟨fun h => ⟨fun h => absurd h h7, fun h => absurd h h9, h⟩, fun h => h.2.2⟩
theorem Cr {a : W32} : bF a 0#32 = true ↔ a = 0#32 := by
 rw [ey]
 constructor
 ·intro h
  apply BitVec.eq_of_getLsbD_eq
  intro i hi
  cases hb : a.getLsbD i with
  | false => simp
  | true => have := h i hb; simp at this
 ·rintro rfl i h
  simp at h
theorem vv {p : ad} (hg : bo p) {l : List ab} {w u : List W32} {fm : W32} (hL : Cq p l w) {f : Nat} (hf : f < p.funcs.length) :
  (∀ r ∈ m0 p u fm f, 0 ≤ r.to_ → r.to_ < (base p.funcs p.funcs.length : Int) → sub (gi w r.to_) (be r w)) ↔ ¬ (fm.getLsbD f = true ∧ (sec l f).entry ≠ 0#32) ∧ bF (hld l f 0) (sec l f).entry = true ∧ ∀ i, i < (List.getD p.funcs f []).length → jz p l u f i = 0 := by
 have hb0 := eA (p := p) hf (k := 0) (by omega)
 have hb2 := eA (p := p) hf (k := 2 + 0) (by have := hg.len f hf; omega)
 have hn : (∀ r ∈ jC p u f 0 (List.getD p.funcs f []).length, 0 ≤ r.to_ → r.to_ < (base p.funcs p.funcs.length : Int) → sub (gi w r.to_) (be r w)) ↔ ∀ i, i < (List.getD p.funcs f []).length → jz p l u f i = 0 := by
  constructor
  ·intro h i hi
   exact (vt hg hL hf hi).1 fun r hr => h r (lU.2 ⟨i, Nat.zero_le _, by omega, hr⟩)
  ·intro h r hr
   obtain ⟨k, _, h2, h3⟩ := lU.1 hr
   exact (vt hg hL hf (by omega)).2 (h k (by omega)) r h3
 have he : (∀ r ∈ AZ p fm f, 0 ≤ r.to_ → r.to_ < (base p.funcs p.funcs.length : Int) → sub (gi w r.to_) (be r w)) ↔ ¬ (fm.getLsbD f = true ∧ (sec l f).entry ≠ 0#32) := by
  unfold AZ
  by_cases hfm : fm.getLsbD f = true
  ·rw [if_pos hfm, List.forall_mem_singleton, oq (X := 0#32) (by omega) (by omega) (by rw [m6]; simp) (hL.ent f hf), Cr]
   exact ⟨fun h h2 => h2.2 h, fun h => Classical.byContradiction fun h2 => h ⟨hfm, h2⟩⟩
  ·rw [if_neg hfm]
   exact ⟨fun _ h => hfm h.1, fun _ r hr => by cases hr⟩
 unfold m0
 rw [List.forall_mem_append, List.forall_mem_cons, he, hn, oq (by omega) (by omega) (gG w _) (hL.nod f 0 hf (hg.len f hf).1), hL.ent f hf]
theorem yz {p : ad} (hg : bo p) {l : List ab} {w u : List W32} {fm : W32} (hL : Cq p l w) : jg (ff p u fm 0 p.funcs.length) (base p.funcs p.funcs.length) w ↔ E0 p l u fm := by
 unfold jg E0
 constructor
 ·intro h f hf
  exact (vv hg hL hf).1 fun r hr => h r (lV.2 ⟨f, Nat.zero_le _, by omega, hr⟩)
 ·intro h r hr
  obtain ⟨k, _, h2, h3⟩ := lV.1 hr
  exact (vv hg hL (by omega)).2 (h k (by omega)) r h3
theorem ly {w t : List W32} {j : Nat} (h : j < w.length) : gi (w ++ t) (j : Int) = gi w (j : Int) := by
 unfold gi
 rw [if_pos (by rw [List.length_append]; omega), if_pos (by omega), Int.toNat_natCast]
 simp [List.getD, List.getElem?_append_left h]
theorem A1 {w t : List W32} {j : Nat} (h : j < t.length) : gi (w ++ t) ((w.length + j : Nat) : Int) = List.getD t j 0#32 := by
 unfold gi
 rw [if_pos (by rw [List.length_append]; omega), Int.toNat_natCast]
 unfold List.getD
 rw [List.getElem?_append_right (Nat.le_add_right _ _), Nat.add_sub_cancel_left]
theorem yA (p : ad) (l : List ab) (hs : Shp p l) : ∀ m, m ≤ p.funcs.length → ∃ w : List W32, w.length = base p.funcs m ∧ ∀ f, f < m → gi w (base p.funcs f : Int) = (sec l f).entry ∧ gi w ((base p.funcs f + 1 : Nat) : Int) = (sec l f).exit ∧ ∀ i, i < (List.getD p.funcs f []).length → gi w ((base p.funcs f + 2 + i : Nat) : Int) = hld l f i
 | 0, _ => ⟨[], rfl, fun f h => by omega⟩
 | m + 1, h => by
  obtain ⟨w, w1, w2⟩ := yA p l hs m (by omega)
  have hh := (hs.2 m (by omega)).1
  refine ⟨w ++ ((sec l m).entry :: (sec l m).exit :: (sec l m).held), by rw [List.length_append, List.length_cons, List.length_cons, base, w1, hh]; omega, fun f hf => ?_⟩
  by_cases e : f = m
  ·subst e
   have g := fun j (hj : j < ((sec l f).entry :: (sec l f).exit :: (sec l f).held).length) => A1 (w := w) hj
   simp only [List.length_cons] at g
   rw [w1] at g
   refine ⟨?_, ?_, fun i hi => ?_⟩
   ·have := g 0 (by omega)
    rw [Nat.add_zero] at this
    rw [this]; rfl
   ·rw [g 1 (by omega)]; rfl
   ·rw [show base p.funcs f + 2 + i = base p.funcs f + (i + 2) by omega, g (i + 2) (by omega)]; rfl
  ·have hb := ol p.funcs (show f < m by omega)
   obtain ⟨h1, h2, h3⟩ := w2 f (by omega)
   exact ⟨by rw [ly (by omega)]; exact h1, by rw [ly (by omega)]; exact h2, fun i hi => by rw [ly (by omega)]; exact h3 i hi⟩
theorem GG (p : ad) (l : List ab) (hs : Shp p l) : ∃ w, Cq p l w := by
 obtain ⟨w, w1, w2⟩ := yA p l hs p.funcs.length (Nat.le_refl _)
 exact ⟨w, w1, fun f hf => (w2 f hf).1, fun f hf => (w2 f hf).2.1, fun f i hf hi => (w2 f hf).2.2 i hi⟩
theorem ot {v : List W32} {j : Nat} (h : j < v.length) : List.getD v j 0#32 = gi v (j : Int) := by
 unfold gi
 rw [if_pos (by omega), Int.toNat_natCast]
theorem A2 (p : ad) (hg : bo p) (bs : List Int) (hb : ia p bs) (v : List W32) (hv : v.length = base p.funcs p.funcs.length) (x2 : List ab) (x4 : List W32) (x5 x6 x7 x8 : W32) (f : Nat) (hf : f < p.funcs.length) (x10 : FS) (x11 x12 : Int) : ∀ (m i : Nat) (h : List W32), i + m = (List.getD p.funcs f []).length → h.length = i → (∀ k, k < i → List.getD h k 0#32 = gi v ((base p.funcs f + 2 + k : Nat) : Int)) → ∃ h', eN bs v x2 h x4 x5 x6 x7 x8 (f : Int) x10 x11 x12 ((List.getD p.funcs f []).length : Int) (i : Int) = some h' ∧ h'.length = (List.getD p.funcs f []).length ∧ ∀ k, k < (List.getD p.funcs f []).length → List.getD h' k 0#32 = gi v ((base p.funcs f + 2 + k : Nat) : Int)
 | 0, i, h, hi, hl, hget => by
  rw [eN, iN (by omega)]
  exact ⟨h, rfl, by omega, fun k hk => hget k (by omega)⟩
 | m + 1, i, h, hi, hl, hget => by
  have hle := hg.le f
  have hbl := eA (p := p) hf (k := 2 + i) (by omega)
  have hn := kz hg hb hf (i := (i : Int)) (by omega) (by omega)
  rw [Int.toNat_natCast] at hn
  rw [eN, iP (by omega), bind_some hn, iP (by omega), iP (by omega), if_pos (Nat.ble_eq_true_of_le (by simp only [List.length_singleton, aK]; omega)), inc i (by omega), Int.toNat_natCast]
  refine A2 p hg bs hb v hv x2 x4 x5 x6 x7 x8 f hf x10 x11 x12 m (i + 1) _ (by omega) (by rw [List.length_append, List.length_singleton]; omega) fun k hk => ?_
  rw [ic]
  split
  ·rename_i e
   subst e
   rw [hl]
   exact ot (by omega)
  ·exact hget k (by omega)
structure A3 (p : ad) (v : List W32) (f : Nat) (s : ab) : Prop where
 ent : s.entry = gi v (base p.funcs f : Int)
 exi : s.exit = gi v ((base p.funcs f + 1 : Nat) : Int)
 hl : s.held.length = (List.getD p.funcs f []).length
 nod : ∀ i, i < (List.getD p.funcs f []).length → List.getD s.held i 0#32 = gi v ((base p.funcs f + 2 + i : Nat) : Int)
 lv : s.live = List.replicate (List.getD p.funcs f []).length 0#32
 le : s.liveEntry = 0#32
 lx : s.liveExit = 0#32
theorem DA (p : ad) (hg : bo p) (bs : List Int) (hb : ia p bs) (v : List W32) (hv : v.length = base p.funcs p.funcs.length) : ∀ (m f : Nat) (t : List ab), f + m = p.funcs.length → t.length = f → (∀ g, g < f → A3 p v g (sec t g)) → ∃ t', fh bs v t p.funcs (p.funcs.length : Int) (f : Int) = some t' ∧ t'.length = p.funcs.length ∧ ∀ g, g < p.funcs.length → A3 p v g (sec t' g)
 | 0, f, t, h, hl, hget => by
  rw [fh, iN (by omega)]
  exact ⟨t, rfl, by omega, fun g hg => hget g (by omega)⟩
 | m + 1, f, t, h, hl, hget => by
  have hn := hg.funcs
  have hle := hg.le f
  have hb0 := eA (p := p) (f := f) (by omega) (k := 0) (by omega)
  have hb1 := eA (p := p) (f := f) (by omega) (k := 1) (by omega)
  obtain ⟨hd, q1, q2, q3⟩ := A2 p hg bs hb v hv t (List.replicate (List.getD p.funcs f []).length 0#32) (List.getD v (base p.funcs f) 0#32) (List.getD v (base p.funcs f + 1) 0#32) 0#32 0#32 f (by omega) p.funcs (p.funcs.length : Int) (f : Int) (List.getD p.funcs f []).length 0 [] (Nat.zero_add _) rfl (fun k hk => by omega)
  rw [show ((0 : Nat) : Int) = 0 from rfl] at q1
  rw [fh, iP (by omega), iP (by omega), iP (by omega), bind_some (gF hb (by omega)), iP (by omega), iP (by omega), bind_some (om hg hb (by omega)), iP (by omega), iP (by omega), Int.toNat_natCast f, iP (by omega), if_pos (decide_eq_true (by simp only [aK]; omega)), Int.toNat_natCast, Int.toNat_natCast, Int.toNat_natCast, bind_some q1, if_pos (Nat.ble_eq_true_of_le (by simp only [List.length_singleton, aK]; omega)), inc f (by omega)]
  refine DA p hg bs hb v hv m (f + 1) _ (by omega) (by rw [List.length_append, List.length_singleton]; omega) fun g hgf => ?_
  unfold sec
  rw [ic]
  split
  ·rename_i e
   subst e
   rw [hl]
   exact ⟨ot (by omega), ot (by omega), q2, q3, rfl, rfl, rfl⟩
  ·exact hget g (by omega)
theorem Ct {p : ad} {v : List W32} {t : List ab} (hv : v.length = base p.funcs p.funcs.length) (hl : t.length = p.funcs.length) (h : ∀ g, g < p.funcs.length → A3 p v g (sec t g)) : Cq p t v ∧ Shp p t :=
 ⟨⟨hv, fun f hf => (h f hf).ent.symm, fun f hf => (h f hf).exi.symm, fun f i hf hi => ((h f hf).nod i hi).symm⟩, hl, fun f hf => ⟨(h f hf).hl, by rw [(h f hf).lv, List.length_replicate]⟩⟩
def xy (p : ad) : W32 := BitVec.setWidth 32 (((1#64) <<< p.locks.toNat) - 1#64)
theorem HC (p : ad) (h0 : 0 ≤ p.locks) (h1 : p.locks ≤ 32) : jU p.locks = some (xy p) := by
 unfold jU xy
 rw [if_neg (show ¬ 32 < p.locks by omega), if_neg (show ¬ 0 > p.locks by omega), iP (by omega)]
theorem DB (p : ad) (hg : bo p) {u : List W32} {fm : W32} (h : yy p u fm) : ∃ v t, gx p = some (0, t) ∧ Gfp (ff p u fm 0 p.funcs.length) (List.replicate (base p.funcs p.funcs.length) (xy p)) v ∧ v.length = base p.funcs p.funcs.length ∧ t.length = p.funcs.length ∧ ∀ g, g < p.funcs.length → A3 p v g (sec t g) := by
 have hn := hg.funcs
 have hlk := hg.locks
 have hbl := oj hg p.funcs.length
 have hrl := vr hg u fm p.funcs.length 0
 obtain ⟨bs, b1, b2⟩ := zy p hg
 obtain ⟨v, v1, v2⟩ := AL (base p.funcs p.funcs.length : Int) (xy p) (ff p u fm 0 p.funcs.length) (by omega)
 rw [if_pos (by omega), Int.toNat_natCast] at v2
 have hv : v.length = base p.funcs p.funcs.length := by rw [v2.len, List.length_replicate]
 obtain ⟨t, t1, t2, t3⟩ := DA p hg bs b2 v hv p.funcs.length 0 [] (Nat.zero_add _) rfl (fun g h => by omega)
 rw [show ((0 : Nat) : Int) = 0 from rfl] at t1
 unfold gx
 rw [bind_some (Fp p hg h), if_neg (show ¬ ((0 : Int) != 0) = true by decide), bind_some b1, bind_some (HC p hlk.1 (by omega)), bind_some v1, bind_some t1]
 exact ⟨v, t, rfl, v2, hv, t2, t3⟩
theorem Fq (p : ad) {a b e : Int} (hk : aH p = some (a, b, e)) (he : e ≠ 0) : gx p = some (e, []) := by
 unfold gx jT
 rw [bind_some (Ax p hk he), if_pos (neT he), bind_some rfl, if_pos (neT he)]
theorem HD {n : Nat} {x : W32} {j : Int} (h0 : 0 ≤ j) (h1 : j < (n : Int)) : gi (List.replicate n x) j = x := by
 unfold gi
 rw [if_pos ⟨h0, by rw [List.length_replicate]; exact h1⟩]
 simp [List.getD, List.getElem?_replicate, show j.toNat < n by omega]
theorem jD (w : List W32) (m : W32) (j : Int) : gi (w.map (fun x => x &&& m)) j = gi w j &&& m := by
 unfold gi
 rw [List.length_map]
 split
 ·rename_i h
  have : j.toNat < w.length := by omega
  simp [List.getD, this]
 ·simp
theorem Ep {l : List af} {n : Nat} {w : List W32} (m : W32) (hif : ∀ r ∈ l, r.if_ = 0#32) (h : jg l n w) : jg l n (w.map (fun x => x &&& m)) := by
 intro r hr h0 h1
 have h2 := h r hr h0 h1
 rw [jD]
 unfold be at h2 ⊢
 rw [if_pos (.inl (hif r hr))] at h2 ⊢
 rw [jD, jD]
 intro i hi
 rw [BitVec.getLsbD_and, Bool.and_eq_true] at hi
 have h3 := h2 i hi.1
 simp only [BitVec.getLsbD_or, BitVec.getLsbD_and, Bool.or_eq_true, Bool.and_eq_true] at h3 ⊢
 rcases h3 with (⟨a, b⟩ | a) | a
 ·exact .inl (.inl ⟨⟨a, hi.2⟩, b⟩)
 ·exact .inl (.inr ⟨a, hi.2⟩)
 ·exact .inr a
theorem qD {fs : FS} {f : Nat} {js : List Int} {own also : Int} {keep th : W32} : ∀ r ∈ vk fs f js own also keep th, r.if_ = 0#32 := fun r hr => by
 obtain ⟨y, _, rfl⟩ := List.mem_map.1 hr
 rfl
theorem Er {p : ad} {u : List W32} {fm : W32} {m f : Nat} : ∀ r ∈ ff p u fm f m, r.if_ = 0#32 := by
 intro r hr
 obtain ⟨k, _, _, h3⟩ := lV.1 hr
 unfold m0 AZ at h3
 rcases List.mem_append.1 h3 with h | h
 ·split at h
  ·rw [List.mem_singleton] at h; subst h; rfl
  ·cases h
 ·rcases List.mem_cons.1 h with h | h
  ·subst h; rfl
  ·obtain ⟨i, _, _, h5⟩ := lU.1 h
   unfold qB at h5
   simp only [] at h5
   split at h5
   ·exact qD r h5
   ·split at h5
    ·exact qD r h5
    ·split at h5
     ·rcases List.mem_cons.1 h5 with h6 | h6
      ·subst h6; rfl
      ·exact qD r h6
     ·split at h5
      ·rcases List.mem_cons.1 h5 with h6 | h6
       ·subst h6; rfl
       ·exact qD r h6
      ·exact qD r h5
theorem GH {p : ad} {u : List W32} {fm : W32} {v w : List W32} (hv : Gfp (ff p u fm 0 p.funcs.length) (List.replicate (base p.funcs p.funcs.length) (xy p)) v) (hwl : w.length = base p.funcs p.funcs.length) (hw : jg (ff p u fm 0 p.funcs.length) (base p.funcs p.funcs.length) w) (j : Int) : sub (xy p &&& gi w j) (gi v j) := by
 have h1 := Ep (xy p) Er hw
 have h2 := hv.best (w.map (fun x => x &&& xy p)) (by rw [List.length_replicate]; exact h1) (fun j => by
  rw [jD]
  by_cases hj : 0 ≤ j ∧ j < (base p.funcs p.funcs.length : Int)
  ·rw [HD hj.1 hj.2]
   exact jo _ _
  ·have : gi w j = 0#32 := by unfold gi; rw [if_neg (by rw [hwl]; exact hj)]
   rw [this]
   intro i hi
   simp at hi) j
 rw [jD] at h2
 intro i hi
 refine h2 i ?_
 simp only [BitVec.getLsbD_and, Bool.and_eq_true] at hi ⊢
 exact ⟨hi.2, hi.1⟩
theorem vw (p : ad) (l : List ab) (hl : l.length = p.funcs.length) (hn : p.funcs.length ≤ 65536) : ∀ (m i : Nat), i + m = l.length → ∃ b, b9 p.globals p.locks p.slots p.funcs l (l.length : Int) (i : Int) = some (if b = true then .x1 else .x0 false) ∧ (b = true ↔ ∀ f, i ≤ f → f < p.funcs.length → (sec l f).held.length = (List.getD p.funcs f []).length ∧ (sec l f).live.length = (List.getD p.funcs f []).length)
 | 0, i, h => by
  rw [b9, iN (by omega)]
  exact ⟨true, rfl, ⟨fun _ f h1 h2 => by omega, fun _ => rfl⟩⟩
 | m + 1, i, h => by
  rw [b9, iP (by omega), iP (by omega), iP (by omega), iP (by omega), Int.toNat_natCast i, inc i (by omega)]
  by_cases h1 : (List.getD l i aa).held.length = (List.getD p.funcs i []).length
  ·by_cases h2 : (List.getD l i aa).live.length = (List.getD p.funcs i []).length
   ·rw [if_neg (neF (by omega)), if_neg (neF (by omega))]
    obtain ⟨b, q1, q3⟩ := vw p l hl hn m (i + 1) (by omega)
    refine ⟨b, q1, ?_⟩
    rw [q3]
    constructor
    ·intro h3 f h4 h5
     rcases Nat.eq_or_lt_of_le h4 with rfl | h6
     ·exact ⟨h1, h2⟩
     ·exact h3 f h6 h5
    ·exact fun h3 f h4 h5 => h3 f (by omega) h5
   ·rw [if_neg (neF (by omega)), if_pos (neT (by omega))]
    exact ⟨false, rfl, ⟨(fun h => by cases h), fun h => absurd (h i (Nat.le_refl _) (by omega)).2 h2⟩⟩
  ·rw [if_pos (neT (by omega))]
   exact ⟨false, rfl, ⟨(fun h => by cases h), fun h => absurd (h i (Nat.le_refl _) (by omega)).1 h1⟩⟩
theorem lW (p : ad) (l : List ab) (hn : p.funcs.length ≤ 65536) : ∃ b, dK p l = some b ∧ (b = true ↔ Shp p l) := by
 unfold dK Shp
 by_cases hl : l.length = p.funcs.length
 ·rw [if_neg (neF (by rw [hl]))]
  obtain ⟨b, q1, q3⟩ := vw p l hl hn l.length 0 (by omega)
  rw [show ((0 : Nat) : Int) = 0 from rfl] at q1
  rw [bind_some q1]
  refine ⟨b, ?_, ?_⟩
  ·cases b <;> rfl
  ·rw [q3]
   exact ⟨fun h => ⟨hl, fun f hf => h f (Nat.zero_le _) hf⟩, fun h f _ hf => h.2 f hf⟩
 ·rw [if_pos (neT (by omega))]
  exact ⟨false, rfl, ⟨(fun h => by cases h), fun h => absurd h.1 hl⟩⟩
theorem yB (p : ad) (hg : bo p) {u : List W32} {fm : W32} (h : yy p u fm) : (∀ l, Shp p l → dx p l = some (zn p l u fm, 0)) ∧ ∀ l, ¬ Shp p l → dx p l = some (⟨-1, -1, 1⟩, 0) := by
 have hn := hg.funcs.2
 obtain ⟨x, x1, rfl⟩ := h.beg
 refine ⟨fun l hs => ?_, fun l hs => ?_⟩
 ·obtain ⟨b, b1, b2⟩ := lW p l (by omega)
  have hb := b2.2 hs
  have h8 := De p hg l hs u h.ul (x ||| one 0) l.length 0 (by omega)
  rw [show ((0 : Nat) : Int) = 0 from rfl] at h8
  unfold dx
  rw [bind_some h.unl, if_neg (show ¬ ((0 : Int) != 0) = true by decide), bind_some b1, hb, if_neg (by decide), bind_some x1, bind_some (fB 0), bind_some h8]
  unfold zn
  cases cj (Az p l u (x ||| one 0)) 0 l.length with
  | some y => rfl
  | none => rfl
 ·obtain ⟨b, b1, b2⟩ := lW p l (by omega)
  have hb : b = false := by
   cases b with
   | false => rfl
   | true => exact absurd (b2.1 rfl) hs
  unfold dx
  rw [bind_some h.unl, if_neg (show ¬ ((0 : Int) != 0) = true by decide), bind_some b1, hb, if_pos (by decide)]
def sb (fs : FS) (f : Nat) (js : List Int) (own also : Int) (keep if_ then_ : W32) : List af := js.map fun y => ⟨((base fs f + 2 + y.toNat : Nat) : Int), own, also, keep, if_, then_⟩
def m7 (p : ad) (bg : W32) (f i : Nat) : List af :=
 let own : Int := ((base p.funcs f + 2 + i : Nat) : Int)
 let js := succ (nde p f i)
 if (nde p f i).kind = 6 then sb p.funcs f js own (-1) (~~~(one (nde p f i).arg)) 0#32 0#32
 else if (nde p f i).kind = 7 then ⟨(base p.funcs (nde p f i).arg.toNat : Int), own, -1, i5, 0#32, 0#32⟩ :: sb p.funcs f js ((base p.funcs (nde p f i).arg.toNat + 1 : Nat) : Int) (-1) i5 0#32 0#32
 else if (nde p f i).kind = 9 then ⟨((base p.funcs f + 1 : Nat) : Int), own, -1, i5, 0#32, 0#32⟩ :: sb p.funcs f js own (-1) i5 0#32 0#32
 else if (nde p f i).kind = 5 then (⟨(base p.funcs (nde p f i).arg.toNat : Int), -1, -1, 0#32, 0#32, one p.slots⟩ :: sb p.funcs f js own (-1) 0#32 (one (nde p f i).alt) (one p.slots)) ++ sb p.funcs f js own (-1) i5 0#32 (if eW bg (nde p f i).arg = true then one (nde p f i).alt ||| one p.slots else one (nde p f i).alt)
 else sb p.funcs f js own (-1) i5 0#32 0#32
theorem A4 (fs : FS) (f : Nat) (x : ac) (own also : Int) (keep if_ then_ : W32) : (sb fs f (succ x) own also keep if_ then_).length ≤ 2 := by
 unfold sb
 rw [List.length_map]
 exact ld x
theorem vx (p : ad) (bg : W32) (f i : Nat) : (m7 p bg f i).length ≤ 5 := by
 have h := A4 p.funcs f (nde p f i)
 have h' : ∀ own also keep if_ then_, (sb p.funcs f (succ (nde p f i)) own also keep if_ then_).length ≤ 5 := fun a b c d e => Nat.le_trans (h a b c d e) (by omega)
 unfold m7
 simp only []
 split
 ·exact h' _ _ _ _ _
 ·split
  ·rw [List.length_cons]; exact Nat.le_trans (Nat.succ_le_succ (h _ _ _ _ _)) (by omega)
  ·split
   ·rw [List.length_cons]; exact Nat.le_trans (Nat.succ_le_succ (h _ _ _ _ _)) (by omega)
   ·split
    ·rw [List.length_append, List.length_cons]
     have h1 := h ((base p.funcs f + 2 + i : Nat) : Int) (-1) 0#32 (one (nde p f i).alt) (one p.slots)
     have h2 := h ((base p.funcs f + 2 + i : Nat) : Int) (-1) i5 0#32 (if eW bg (nde p f i).arg = true then one (nde p f i).alt ||| one p.slots else one (nde p f i).alt)
     omega
    ·exact h' _ _ _ _ _
theorem m9 (l1 : List Int) (l3 : List af) (b0 b01 b02 : Int) (b03 : FS) (b04 b05 : W32) (r : af) (h : l3.length ≤ 65536) : cN l1 l3 b0 b01 b02 b03 b04 b05 r = some (l3 ++ [r]) := by
 unfold cN
 rw [if_pos (Nat.ble_eq_true_of_le (by simp only [List.length_singleton, aK]; omega))]
theorem DC (p : ad) (hg : bo p) (bs : List Int) (hb : ia p bs) (js : List Int) (hj : js.length ≤ 2) (hjr : ∀ y ∈ js, 0 ≤ y ∧ y ≤ 65536) (x4 x5 x6 : Int) (x7 : FS) (x8 x9 : W32) (own also : Int) (keep if_ th : W32) (f : Nat) (hf : f < p.funcs.length) : ∀ (m k : Nat) (out : List af) (to : Int), k + m = js.length → out.length + m ≤ 65536 → cq bs out js x4 x5 x6 x7 x8 x9 to own also keep if_ th (f : Int) (js.length : Int) (k : Int) = some (out ++ sb p.funcs f (js.drop k) own also keep if_ th)
 | 0, k, out, to, h, ho => by
  rw [cq, iN (by omega), List.drop_eq_nil_of_le (by omega)]
  simp [sb]
 | m + 1, k, out, to, h, ho => by
  have hlt : k < js.length := by omega
  have hg1 : List.getD js k 0 = js[k] := by simp [List.getD, hlt]
  have hr := hjr _ (List.getElem_mem hlt)
  rw [cq, iP (by omega), iP (by omega), iP (by omega), Int.toNat_natCast, hg1, bind_some (kz hg hb hf hr.1 hr.2), bind_some (m9 _ _ _ _ _ _ _ _ _ (by omega)), inc k (by omega), DC p hg bs hb js hj hjr x4 x5 x6 x7 x8 x9 own also keep if_ th f hf m (k + 1) _ _ (by omega) (by rw [List.length_append, List.length_singleton]; omega), List.append_assoc, List.singleton_append, List.drop_eq_getElem_cons hlt]
  rfl
theorem lX (p : ad) (hg : bo p) (bs : List Int) (hb : ia p bs) (x : ac) (hjr : ∀ y ∈ succ x, 0 ≤ y ∧ y ≤ 65536) (x4 x5 x6 : Int) (x7 : FS) (x8 x9 : W32) (to own also : Int) (keep if_ th : W32) (f : Nat) (hf : f < p.funcs.length) (out : List af) (ho : out.length + 2 ≤ 65536) : bN bs out x4 x5 x6 x7 x8 x9 (f : Int) x ⟨to, own, also, keep, if_, th⟩ = some (out ++ sb p.funcs f (succ x) own also keep if_ th) := by
 have h1 := ld x
 have q := DC p hg bs hb (succ x) h1 hjr x4 x5 x6 x7 x8 x9 own also keep if_ th f hf _ 0 out to (Nat.zero_add _) (by omega)
 rw [show ((0 : Nat) : Int) = 0 from rfl, List.drop_zero] at q
 unfold bN
 rw [bind_some (fO x)]
 simp only []
 rw [bind_some q]
theorem A5 (p : ad) (hg : bo p) (bs : List Int) (hb : ia p bs) (bg : W32) (out : List af) (ho : out.length + 5 ≤ 65536) (b0 b01 b02 : Int) (f i : Nat) (hf : f < p.funcs.length) (hi : i < (List.getD p.funcs f []).length) : gj bs out b0 b01 b02 p.funcs (one p.slots) bg (f : Int) (i : Int) = some (out ++ m7 p bg f i) := by
 have hok := hg.node f i hf hi
 have hle := hg.le f
 have hjr := oc hok (by omega)
 have hjr' : ∀ y ∈ succ (nde p f i), 0 ≤ y ∧ y ≤ 65536 := fun y hy => by have := hjr y hy; omega
 have hsl := A4 p.funcs f (nde p f i)
 have hc := hok.call
 have hsp := hok.spawn
 have e1 : ∀ (r : af), (out ++ [r]).length = out.length + 1 := fun r => by rw [List.length_append, List.length_singleton]
 unfold gj
 rw [iP (by omega), iP (by omega), iP (by omega), Int.toNat_natCast f, iP (by omega), Int.toNat_natCast i, bind_some (kz hg hb hf (i := (i : Int)) (by omega) (by omega)), Int.toNat_natCast i]
 unfold m7
 simp only []
 by_cases h6 : (nde p f i).kind = 6
 ·rw [if_pos (eqT h6), if_pos h6, bind_some (fB _), bind_some (lX p hg bs hb (nde p f i) hjr' _ _ _ _ _ _ _ _ _ _ _ _ f hf _ (by omega))]
 rw [if_neg (eqF h6), if_neg h6]
 by_cases h7 : (nde p f i).kind = 7
 ·have ha := hc h7
  obtain ⟨a, ha2⟩ : ∃ a : Nat, (List.getD (List.getD p.funcs f []) i ae).arg = (a : Int) := ⟨(List.getD (List.getD p.funcs f []) i ae).arg.toNat, by omega⟩
  rw [ha2] at ha
  rw [if_pos (eqT h7), if_pos h7, ha2, Int.toNat_natCast a, bind_some (gF hb (by omega)), bind_some (m9 _ _ _ _ _ _ _ _ _ (by omega)), bind_some (om hg hb (by omega)), bind_some (lX p hg bs hb (nde p f i) hjr' _ _ _ _ _ _ _ _ _ _ _ _ f hf _ (by rw [e1]; omega)), List.append_assoc, List.singleton_append]
 rw [if_neg (eqF h7), if_neg h7]
 by_cases h9 : (nde p f i).kind = 9
 ·rw [if_pos (eqT h9), if_pos h9, bind_some (om hg hb hf), bind_some (m9 _ _ _ _ _ _ _ _ _ (by omega)), bind_some (lX p hg bs hb (nde p f i) hjr' _ _ _ _ _ _ _ _ _ _ _ _ f hf _ (by rw [e1]; omega)), List.append_assoc, List.singleton_append]
 rw [if_neg (eqF h9), if_neg h9]
 by_cases h5 : (nde p f i).kind = 5
 ·have ha := hsp h5
  obtain ⟨a, ha2⟩ : ∃ a : Nat, (List.getD (List.getD p.funcs f []) i ae).arg = (a : Int) := ⟨(List.getD (List.getD p.funcs f []) i ae).arg.toNat, by omega⟩
  rw [ha2] at ha
  have hl2 := hsl ((base p.funcs f + 2 + i : Nat) : Int) (-1) 0#32 (one (List.getD (List.getD p.funcs f []) i ae).alt) (one p.slots)
  rw [if_pos (eqT h5), if_pos h5, ha2, Int.toNat_natCast a, bind_some (gF hb (by omega)), bind_some (m9 _ _ _ _ _ _ _ _ _ (by omega)), bind_some (fB _), bind_some (lX p hg bs hb (nde p f i) hjr' _ _ _ _ _ _ _ _ _ _ _ _ f hf _ (by rw [e1]; omega)), bind_some (fB _), bind_some (show cH bg (a : Int) = some (eW bg (a : Int)) from mQ _ _)]
  have e2 : ∀ (r : af) (s t : List af), out ++ [r] ++ s ++ t = out ++ (r :: s ++ t) := fun r s t => by simp
  by_cases hb5 : eW bg (a : Int) = true
  ·rw [if_pos hb5, if_pos hb5, bind_some (lX p hg bs hb (nde p f i) hjr' _ _ _ _ _ _ _ _ _ _ _ _ f hf _ (by rw [List.length_append, e1]; omega)), e2]
  ·rw [if_neg hb5, if_neg hb5, bind_some (lX p hg bs hb (nde p f i) hjr' _ _ _ _ _ _ _ _ _ _ _ _ f hf _ (by rw [List.length_append, e1]; omega)), e2]
 ·rw [if_neg (eqF h5), if_neg h5, bind_some (lX p hg bs hb (nde p f i) hjr' _ _ _ _ _ _ _ _ _ _ _ _ f hf _ (by omega))]
def gH (p : ad) (bg : W32) (f : Nat) : Nat → Nat → List af
 | _, 0 => []
 | i, m + 1 => m7 p bg f i ++ gH p bg f (i + 1) m
theorem tt (p : ad) (bg : W32) (f : Nat) : ∀ (m i : Nat), (gH p bg f i m).length ≤ 5 * m
 | 0, i => Nat.zero_le _
 | m + 1, i => by
  have h1 := tt p bg f m (i + 1)
  have h2 := vx p bg f i
  rw [gH, List.length_append]
  omega
theorem na {p : ad} {bg : W32} {f : Nat} {r : af} : ∀ {m i : Nat}, r ∈ gH p bg f i m ↔ ∃ k, i ≤ k ∧ k < i + m ∧ r ∈ m7 p bg f k
 | 0, i => by
  rw [gH]
  exact ⟨(fun h => by cases h), fun ⟨k, h1, h2, _⟩ => by omega⟩
 | m + 1, i => by
  rw [gH, List.mem_append, na]
  constructor
  ·rintro (h | ⟨k, h1, h2, h3⟩)
   ·exact ⟨i, Nat.le_refl _, by omega, h⟩
   ·exact ⟨k, by omega, by omega, h3⟩
  ·rintro ⟨k, h1, h2, h3⟩
   rcases Nat.eq_or_lt_of_le h1 with rfl | h4
   ·exact .inl h3
   ·exact .inr ⟨k, h4, by omega, h3⟩
theorem vz (p : ad) (hg : bo p) (bs : List Int) (hb : ia p bs) (bg : W32) (x3 x4 x5 : Int) (f : Nat) (hf : f < p.funcs.length) (x9 : FS) (x10 x11 : Int) : ∀ (m i : Nat) (out : List af), i + m = (List.getD p.funcs f []).length → out.length + 5 * m ≤ 65000 → d6 bs out x3 x4 x5 p.funcs (one p.slots) bg (f : Int) x9 x10 x11 ((List.getD p.funcs f []).length : Int) (i : Int) = some (out ++ gH p bg f i m)
 | 0, i, out, h, ho => by
  rw [d6, iN (by omega)]
  simp [gH]
 | m + 1, i, out, h, ho => by
  have h1 := vx p bg f i
  have hle := hg.le f
  rw [d6, iP (by omega), bind_some (A5 p hg bs hb bg out (by omega) x3 x4 x5 f i hf (by omega)), inc i (by omega), vz p hg bs hb bg x3 x4 x5 f hf x9 x10 x11 m (i + 1) _ (by omega) (by rw [List.length_append]; omega), gH, List.append_assoc]
def lY (p : ad) (bg : W32) (f : Nat) : List af := ⟨((base p.funcs f + 2 + 0 : Nat) : Int), (base p.funcs f : Int), -1, i5, 0#32, 0#32⟩ :: gH p bg f 0 (List.getD p.funcs f []).length
theorem vA {p : ad} (hg : bo p) (bg : W32) (f : Nat) : (lY p bg f).length ≤ 322 := by
 have h1 := tt p bg f (List.getD p.funcs f []).length 0
 have h2 := hg.le f
 unfold lY
 rw [List.length_cons]
 omega
def eC (p : ad) (bg : W32) : Nat → Nat → List af
 | _, 0 => []
 | f, m + 1 => lY p bg f ++ eC p bg (f + 1) m
theorem tu {p : ad} (hg : bo p) (bg : W32) : ∀ (m f : Nat), (eC p bg f m).length ≤ 322 * m
 | 0, f => Nat.zero_le _
 | m + 1, f => by
  have h1 := tu hg bg m (f + 1)
  have h2 := vA hg bg f
  rw [eC, List.length_append]
  omega
theorem nb {p : ad} {bg : W32} {r : af} : ∀ {m f : Nat}, r ∈ eC p bg f m ↔ ∃ k, f ≤ k ∧ k < f + m ∧ r ∈ lY p bg k
 | 0, f => by
  rw [eC]
  exact ⟨(fun h => by cases h), fun ⟨k, h1, h2, _⟩ => by omega⟩
 | m + 1, f => by
  rw [eC, List.mem_append, nb]
  constructor
  ·rintro (h | ⟨k, h1, h2, h3⟩)
   ·exact ⟨f, Nat.le_refl _, by omega, h⟩
   ·exact ⟨k, by omega, by omega, h3⟩
  ·rintro ⟨k, h1, h2, h3⟩
   rcases Nat.eq_or_lt_of_le h1 with rfl | h4
   ·exact .inl h3
   ·exact .inr ⟨k, h4, by omega, h3⟩
theorem yC (p : ad) (hg : bo p) (bs : List Int) (hb : ia p bs) (bg : W32) (x3 x4 x5 : Int) : ∀ (m f : Nat) (out : List af), f + m = p.funcs.length → out.length + 322 * m ≤ 60000 → eO bs out x3 x4 x5 p.funcs (one p.slots) bg p.funcs (p.funcs.length : Int) (f : Int) = some (out ++ eC p bg f m)
 | 0, f, out, h, ho => by
  rw [eO, iN (by omega)]
  simp [eC]
 | m + 1, f, out, h, ho => by
  have hn := hg.funcs
  have hle := hg.le f
  have hfl := vA hg bg f
  have h0 := kz hg hb (f := f) (by omega) (i := 0) (Int.le_refl _) (by omega)
  rw [show (0 : Int).toNat = 0 from rfl] at h0
  have ih := yC p hg bs hb bg x3 x4 x5 m (f + 1) (out ++ lY p bg f) (by omega) (by rw [List.length_append]; omega)
  rw [eO, iP (by omega), iP (by omega), iP (by omega), Int.toNat_natCast f, inc f (by omega)]
  unfold lY at ih
  have q := vz p hg bs hb bg x3 x4 x5 f (by omega) p.funcs (p.funcs.length : Int) (f : Int) (List.getD p.funcs f []).length 0 (out ++ [⟨((base p.funcs f + 2 + 0 : Nat) : Int), (base p.funcs f : Int), -1, i5, 0#32, 0#32⟩]) (Nat.zero_add _) (by simp only [List.length_append, List.length_singleton]; omega)
  rw [show ((0 : Nat) : Int) = 0 from rfl] at q
  rw [bind_some h0, bind_some (gF hb (by omega)), bind_some (m9 _ _ _ _ _ _ _ _ _ (by omega))]
  rw [bind_some q, show ∀ (N : af) (t : List af), out ++ [N] ++ t = out ++ (N :: t) from fun N t => by simp]
  refine ih.trans ?_
  rw [eC]
  unfold lY
  rw [List.append_assoc]
theorem Es (p : ad) (hg : bo p) {bg : W32} (h : dJ p = some (bg, 0)) : mh p = some (0, eC p bg 0 p.funcs.length) := by
 have hn := hg.funcs
 obtain ⟨bs, b1, b2⟩ := zy p hg
 have q := yC p hg bs b2 bg p.globals p.locks p.slots p.funcs.length 0 [] (Nat.zero_add _) (by rw [List.length_nil]; omega)
 rw [show ((0 : Nat) : Int) = 0 from rfl, List.nil_append] at q
 unfold mh
 rw [bind_some h, if_neg (show ¬ ((0 : Int) != 0) = true by decide), bind_some (show jG p = some p.slots from rfl), bind_some (fB _), bind_some b1, bind_some q]
structure vB (p : ad) (l : List ab) (w : List W32) : Prop where
 len : w.length = base p.funcs p.funcs.length
 ent : ∀ f, f < p.funcs.length → gi w (base p.funcs f : Int) = (sec l f).liveEntry
 exi : ∀ f, f < p.funcs.length → gi w ((base p.funcs f + 1 : Nat) : Int) = (sec l f).liveExit
 nod : ∀ f i, f < p.funcs.length → i < (List.getD p.funcs f []).length → gi w ((base p.funcs f + 2 + i : Nat) : Int) = liv l f i
theorem il {p : ad} {l : List ab} {w : List W32} (hL : vB p l w) {f : Nat} (hf : f < p.funcs.length) {js : List Int} (hj : ∀ y ∈ js, 0 ≤ y ∧ y < ((List.getD p.funcs f []).length : Int)) {own also : Int} {keep if_ th X : W32} (hX : ∀ to, be ⟨to, own, also, keep, if_, th⟩ w = X) :
  (∀ r ∈ sb p.funcs f js own also keep if_ th, 0 ≤ r.to_ → r.to_ < (base p.funcs p.funcs.length : Int) → dW (gi w r.to_) (be r w)) ↔ js.all (fun y => bF X (liv l f y.toNat)) = true := by
 rw [List.all_eq_true]
 constructor
 ·intro h y hy
  have hr := hj y hy
  have hb := eA (p := p) hf (k := 2 + y.toNat) (by omega)
  have := h _ (List.mem_map.2 ⟨y, hy, rfl⟩) (by show (0 : Int) ≤ ((_ : Nat) : Int); omega) (by show ((base p.funcs f + 2 + y.toNat : Nat) : Int) < _; omega)
  rw [hX] at this
  rw [show (gi w ((base p.funcs f + 2 + y.toNat : Nat) : Int)) = liv l f y.toNat from hL.nod f _ hf (by omega)] at this
  exact ey.2 this
 ·intro h r hr _ _
  obtain ⟨y, hy, rfl⟩ := List.mem_map.1 hr
  have hr := hj y hy
  rw [hX]
  show dW (gi w ((base p.funcs f + 2 + y.toNat : Nat) : Int)) X
  rw [hL.nod f _ hf (by omega)]
  exact ey.1 (h y hy)
theorem lZ {N : Nat} {w : List W32} {to own also : Int} {keep th X Y : W32} (h0 : 0 ≤ to) (h1 : to < (N : Int)) (hX : ((gi w own &&& keep) ||| gi w also) ||| th = X) (hY : gi w to = Y) : (0 ≤ to → to < (N : Int) → dW (gi w to) (be ⟨to, own, also, keep, 0#32, th⟩ w)) ↔ bF X Y = true := by
 rw [qC hX, hY]
 exact ⟨fun h => ey.2 (h h0 h1), fun h _ _ => ey.1 h⟩
theorem Et {p : ad} {l : List ab} {bg : W32} {f i : Nat} : iK p l bg f i = 0 ↔ ((nde p f i).kind = 7 → bF (liv l f i) (sec l (nde p f i).arg.toNat).liveEntry = true) ∧ ((nde p f i).kind = 9 → bF (liv l f i) (sec l f).liveExit = true) ∧ ((nde p f i).kind = 5 → eW (sec l (nde p f i).arg.toNat).liveEntry p.slots = true) ∧ onL p l bg f i = true :=
 ⟨Cc, fun ⟨h1, h2, h3, h4⟩ => by rw [oe h1 h2 h3, if_pos h4]⟩
theorem fo {a b c : W32} : bF (a ||| b) c = true ↔ bF a c = true ∧ bF b c = true := by
 rw [ey, ey, ey]
 constructor
 ·intro h
  exact ⟨fun i hi => h i (by rw [BitVec.getLsbD_or, hi]; rfl), fun i hi => h i (by rw [BitVec.getLsbD_or, hi, Bool.or_true])⟩
 ·rintro ⟨h1, h2⟩ i hi
  rw [BitVec.getLsbD_or, Bool.or_eq_true] at hi
  exact hi.elim (h1 i) (h2 i)
theorem GI {js : List Int} {q r s : Int → Bool} (h : ∀ y, s y = true ↔ q y = true ∧ r y = true) : js.all s = true ↔ js.all q = true ∧ js.all r = true := by
 rw [List.all_eq_true, List.all_eq_true, List.all_eq_true]
 exact ⟨fun g => ⟨fun y hy => ((h y).1 (g y hy)).1, fun y hy => ((h y).1 (g y hy)).2⟩, fun g y hy => (h y).2 ⟨g.1 y hy, g.2 y hy⟩⟩
theorem Fs {id : Int} (h0 : 0 ≤ id) (h1 : id < 32) (a : W32) : bF (one id) a = true ↔ eW a id = true := by
 unfold eW
 rw [if_pos ⟨h0, h1⟩, ey]
 constructor
 ·intro h
  exact h _ ((lP id _).2 ⟨by omega, by omega⟩)
 ·intro h i hi
  obtain ⟨h2, _⟩ := (lP id i).1 hi
  have : i = id.toNat := by omega
  rw [this]
  exact h
theorem DD {id : Int} (h0 : 0 ≤ id) (h1 : id < 32) (a : W32) : a &&& one id ≠ 0#32 ↔ eW a id = true := by
 unfold eW
 rw [if_pos ⟨h0, h1⟩, kq]
 constructor
 ·rintro ⟨i, hi⟩
  rw [BitVec.getLsbD_and, Bool.and_eq_true, lP] at hi
  have : i = id.toNat := by omega
  rw [← this]
  exact hi.1
 ·intro h
  exact ⟨id.toNat, by rw [BitVec.getLsbD_and, h, Bool.true_and, lP]; omega⟩
theorem HE {id : Int} (h0 : 0 ≤ id) (h1 : id < 32) : one id ≠ 0#32 := kq.2 ⟨id.toNat, (lP id _).2 ⟨by omega, by omega⟩⟩
theorem GJ {w : List W32} {own id : Int} {th : W32} (h0 : 0 ≤ id) (h1 : id < 32) (to : Int) : be ⟨to, own, -1, 0#32, one id, th⟩ w = if eW (gi w own) id = true then th else 0#32 := by
 unfold be
 simp only []
 rw [m6]
 by_cases h : eW (gi w own) id = true
 ·rw [if_pos (.inr ((DD h0 h1 _).2 h)), if_pos h]; simp
 ·rw [if_neg (fun hh => hh.elim (HE h0 h1) fun hh => h ((DD h0 h1 _).1 hh)), if_neg h]; simp
theorem tv {p : ad} (hg : bo p) {l : List ab} {w : List W32} {bg : W32} (hL : vB p l w) {f i : Nat} (hf : f < p.funcs.length) (hi : i < (List.getD p.funcs f []).length) :
  (∀ r ∈ m7 p bg f i, 0 ≤ r.to_ → r.to_ < (base p.funcs p.funcs.length : Int) → dW (gi w r.to_) (be r w)) ↔ iK p l bg f i = 0 := by
 have hok := hg.node f i hf hi
 have hjr := oc hok (by omega)
 have hown := hL.nod f i hf hi
 have hsl := hg.slots
 have hc : (nde p f i).kind = 7 → 0 ≤ (nde p f i).arg ∧ (nde p f i).arg < p.funcs.length := hok.call
 have hsp : (nde p f i).kind = 5 → 0 ≤ (nde p f i).arg ∧ (nde p f i).arg < p.funcs.length ∧ 0 ≤ (nde p f i).alt ∧ (nde p f i).alt < p.slots := hok.spawn
 rw [Et]
 unfold m7 onL lbh xit
 simp only []
 by_cases h6 : (nde p f i).kind = 6
 ·have n5 : (nde p f i).kind ≠ 5 := by omega
  rw [if_pos h6, il hL hf hjr (X := liv l f i &&& ~~~(one (nde p f i).arg)) (fun to => qC (by rw [m6, hown]; simp)), if_neg n5, if_pos h6]
  exact ⟨fun h => ⟨fun h7 => by omega, fun h9 => by omega, fun h5 => by omega, h⟩, fun h => h.2.2.2⟩
 rw [if_neg h6]
 by_cases h7 : (nde p f i).kind = 7
 ·have ha := hc h7
  have n5 : (nde p f i).kind ≠ 5 := by omega
  have hb := eA (p := p) (f := (nde p f i).arg.toNat) (by omega) (k := 0) (by omega)
  rw [if_pos h7, List.forall_mem_cons, lZ (by omega) (by omega) (gG w _) (hL.ent _ (by omega)), hown, il hL hf hjr (X := (sec l (nde p f i).arg.toNat).liveExit) (fun to => qC (by rw [gG, hL.exi _ (by omega)])), if_neg n5, if_neg h6, if_pos h7, if_pos h7]
  exact ⟨fun h => ⟨fun _ => h.1, fun h9 => by omega, fun h5 => by omega, h.2⟩, fun h => ⟨h.1 h7, h.2.2.2⟩⟩
 rw [if_neg h7]
 by_cases h9 : (nde p f i).kind = 9
 ·have hb := eA (p := p) hf (k := 1) (by omega)
  have n5 : (nde p f i).kind ≠ 5 := by omega
  rw [if_pos h9, List.forall_mem_cons, lZ (by omega) (by omega) (gG w _) (hL.exi _ hf), il hL hf hjr (X := liv l f i) (fun to => qC (by rw [gG, hown])), hown, if_neg n5, if_neg h6, if_neg h7]
  exact ⟨fun h => ⟨fun h => absurd h h7, fun _ => h.1, fun h5 => absurd h5 n5, h.2⟩, fun h => ⟨h.2.1 h9, h.2.2.2⟩⟩
 rw [if_neg h9]
 by_cases h5 : (nde p f i).kind = 5
 ·have ha := hsp h5
  have hb := eA (p := p) (f := (nde p f i).arg.toNat) (by omega) (k := 0) (by omega)
  rw [if_pos h5, List.forall_mem_append, List.forall_mem_cons, lZ (X := one p.slots) (by omega) (by omega) (by rw [m6]; simp) (hL.ent _ (by omega)), Fs hsl.1 (by omega), il hL hf hjr (X := if eW (liv l f i) (nde p f i).alt = true then one p.slots else 0#32) (fun to => by rw [GJ ha.2.2.1 (by omega), hown]), il hL hf hjr (X := liv l f i ||| (if eW bg (nde p f i).arg = true then one (nde p f i).alt ||| one p.slots else one (nde p f i).alt)) (fun to => qC (by rw [m6, zz, hown]; simp)), if_pos h5]
  have hall : (succ (nde p f i)).all (fun y => bF ((liv l f i ||| one (nde p f i).alt) ||| (if eW bg (nde p f i).arg = true ∨ eW (liv l f i) (nde p f i).alt = true then one p.slots else 0#32)) (liv l f y.toNat)) = true ↔ (succ (nde p f i)).all (fun y => bF (if eW (liv l f i) (nde p f i).alt = true then one p.slots else 0#32) (liv l f y.toNat)) = true ∧ (succ (nde p f i)).all (fun y => bF (liv l f i ||| (if eW bg (nde p f i).arg = true then one (nde p f i).alt ||| one p.slots else one (nde p f i).alt)) (liv l f y.toNat)) = true := by
   refine GI fun y => ?_
   have hz : bF 0#32 (liv l f y.toNat) = true := ey.2 fun i h => by simp at h
   by_cases c1 : eW bg (nde p f i).arg = true <;> by_cases c2 : eW (liv l f i) (nde p f i).alt = true
   ·rw [if_pos (.inl c1), if_pos c2, if_pos c1, fo, fo, fo, fo]
    exact ⟨fun ⟨⟨a, b⟩, c⟩ => ⟨c, a, b, c⟩, fun ⟨_, a, b, c⟩ => ⟨⟨a, b⟩, c⟩⟩
   ·rw [if_pos (.inl c1), if_neg c2, if_pos c1, fo, fo, fo, fo]
    exact ⟨fun ⟨⟨a, b⟩, c⟩ => ⟨hz, a, b, c⟩, fun ⟨_, a, b, c⟩ => ⟨⟨a, b⟩, c⟩⟩
   ·rw [if_pos (.inr c2), if_pos c2, if_neg c1, fo, fo]
    exact ⟨fun ⟨a, c⟩ => ⟨c, a⟩, fun ⟨c, a⟩ => ⟨a, c⟩⟩
   ·rw [if_neg (fun h => h.elim c1 c2), if_neg c2, if_neg c1, fo, fo]
    exact ⟨fun ⟨a, c⟩ => ⟨c, a⟩, fun ⟨c, a⟩ => ⟨a, c⟩⟩
  rw [hall]
  exact ⟨fun h => ⟨fun h => absurd h h7, fun h => absurd h h9, fun _ => h.1.1, h.1.2, h.2⟩, fun h => ⟨⟨h.2.2.1 h5, h.2.2.2.1⟩, h.2.2.2.2⟩⟩
 ·rw [if_neg h5, il hL hf hjr (X := liv l f i) (fun to => qC (by rw [gG, hown])), if_neg h5, if_neg h6, if_neg h7]
  exact ⟨fun h => ⟨fun h => absurd h h7, fun h => absurd h h9, fun h => absurd h h5, h⟩, fun h => h.2.2.2⟩
theorem tw {p : ad} (hg : bo p) {l : List ab} {w : List W32} {bg : W32} (hL : vB p l w) {f : Nat} (hf : f < p.funcs.length) :
  (∀ r ∈ lY p bg f, 0 ≤ r.to_ → r.to_ < (base p.funcs p.funcs.length : Int) → dW (gi w r.to_) (be r w)) ↔ bF (sec l f).liveEntry (liv l f 0) = true ∧ ∀ i, i < (List.getD p.funcs f []).length → iK p l bg f i = 0 := by
 have hb0 := eA (p := p) hf (k := 0) (by omega)
 have hb2 := eA (p := p) hf (k := 2 + 0) (by have := hg.len f hf; omega)
 have hn : (∀ r ∈ gH p bg f 0 (List.getD p.funcs f []).length, 0 ≤ r.to_ → r.to_ < (base p.funcs p.funcs.length : Int) → dW (gi w r.to_) (be r w)) ↔ ∀ i, i < (List.getD p.funcs f []).length → iK p l bg f i = 0 := by
  constructor
  ·intro h i hi
   exact (tv hg hL hf hi).1 fun r hr => h r (na.2 ⟨i, Nat.zero_le _, by omega, hr⟩)
  ·intro h r hr
   obtain ⟨k, _, h2, h3⟩ := na.1 hr
   exact (tv hg hL hf (by omega)).2 (h k (by omega)) r h3
 unfold lY
 rw [List.forall_mem_cons, hn, lZ (by omega) (by omega) (gG w _) (hL.nod f 0 hf (hg.len f hf).1), hL.ent f hf]
theorem vC {p : ad} (hg : bo p) {l : List ab} {w : List W32} {bg : W32} (hL : vB p l w) : kR (eC p bg 0 p.funcs.length) (base p.funcs p.funcs.length) w ↔ AA p l bg := by
 unfold kR AA
 constructor
 ·intro h f hf
  exact (tw hg hL hf).1 fun r hr => h r (nb.2 ⟨f, Nat.zero_le _, by omega, hr⟩)
 ·intro h r hr
  obtain ⟨k, _, h2, h3⟩ := nb.1 hr
  exact (tw hg hL (by omega)).2 (h k (by omega)) r h3
theorem vD (p : ad) (l : List ab) (hs : Shp p l) : ∀ m, m ≤ p.funcs.length → ∃ w : List W32, w.length = base p.funcs m ∧ ∀ f, f < m → gi w (base p.funcs f : Int) = (sec l f).liveEntry ∧ gi w ((base p.funcs f + 1 : Nat) : Int) = (sec l f).liveExit ∧ ∀ i, i < (List.getD p.funcs f []).length → gi w ((base p.funcs f + 2 + i : Nat) : Int) = liv l f i
 | 0, _ => ⟨[], rfl, fun f h => by omega⟩
 | m + 1, h => by
  obtain ⟨w, w1, w2⟩ := vD p l hs m (by omega)
  have hh := (hs.2 m (by omega)).2
  refine ⟨w ++ ((sec l m).liveEntry :: (sec l m).liveExit :: (sec l m).live), by rw [List.length_append, List.length_cons, List.length_cons, base, w1, hh]; omega, fun f hf => ?_⟩
  by_cases e : f = m
  ·subst e
   have g := fun j (hj : j < ((sec l f).liveEntry :: (sec l f).liveExit :: (sec l f).live).length) => A1 (w := w) hj
   simp only [List.length_cons] at g
   rw [w1] at g
   refine ⟨?_, ?_, fun i hi => ?_⟩
   ·have := g 0 (by omega)
    rw [Nat.add_zero] at this
    rw [this]; rfl
   ·rw [g 1 (by omega)]; rfl
   ·rw [show base p.funcs f + 2 + i = base p.funcs f + (i + 2) by omega, g (i + 2) (by omega)]; rfl
  ·have hb := ol p.funcs (show f < m by omega)
   obtain ⟨h1, h2, h3⟩ := w2 f (by omega)
   exact ⟨by rw [ly (by omega)]; exact h1, by rw [ly (by omega)]; exact h2, fun i hi => by rw [ly (by omega)]; exact h3 i hi⟩
theorem Ft (p : ad) (l : List ab) (hs : Shp p l) : ∃ w, vB p l w := by
 obtain ⟨w, w1, w2⟩ := vD p l hs p.funcs.length (Nat.le_refl _)
 exact ⟨w, w1, fun f hf => (w2 f hf).1, fun f hf => (w2 f hf).2.1, fun f i hf hi => (w2 f hf).2.2 i hi⟩
theorem yD (p : ad) (hg : bo p) (bs : List Int) (hb : ia p bs) (v : List W32) (hv : v.length = base p.funcs p.funcs.length) (x2 : List ab) (x4 : List W32) (x5 x6 x7 x8 : W32) (f : Nat) (hf : f < p.funcs.length) (x10 : FS) (x11 x12 : Int) : ∀ (m i : Nat) (h : List W32), i + m = (List.getD p.funcs f []).length → h.length = i → (∀ k, k < i → List.getD h k 0#32 = gi v ((base p.funcs f + 2 + k : Nat) : Int)) → ∃ h', eP bs v x2 x4 h x5 x6 x7 x8 (f : Int) x10 x11 x12 ((List.getD p.funcs f []).length : Int) (i : Int) = some h' ∧ h'.length = (List.getD p.funcs f []).length ∧ ∀ k, k < (List.getD p.funcs f []).length → List.getD h' k 0#32 = gi v ((base p.funcs f + 2 + k : Nat) : Int)
 | 0, i, h, hi, hl, hget => by
  rw [eP, iN (by omega)]
  exact ⟨h, rfl, by omega, fun k hk => hget k (by omega)⟩
 | m + 1, i, h, hi, hl, hget => by
  have hle := hg.le f
  have hbl := eA (p := p) hf (k := 2 + i) (by omega)
  have hn := kz hg hb hf (i := (i : Int)) (by omega) (by omega)
  rw [Int.toNat_natCast] at hn
  rw [eP, iP (by omega), bind_some hn, iP (by omega), iP (by omega), if_pos (Nat.ble_eq_true_of_le (by simp only [List.length_singleton, aK]; omega)), inc i (by omega), Int.toNat_natCast]
  refine yD p hg bs hb v hv x2 x4 x5 x6 x7 x8 f hf x10 x11 x12 m (i + 1) _ (by omega) (by rw [List.length_append, List.length_singleton]; omega) fun k hk => ?_
  rw [ic]
  split
  ·rename_i e
   subst e
   rw [hl]
   exact ot (by omega)
  ·exact hget k (by omega)
structure vE (p : ad) (v : List W32) (f : Nat) (s : ab) : Prop where
 ent : s.liveEntry = gi v (base p.funcs f : Int)
 exi : s.liveExit = gi v ((base p.funcs f + 1 : Nat) : Int)
 hl : s.live.length = (List.getD p.funcs f []).length
 nod : ∀ i, i < (List.getD p.funcs f []).length → List.getD s.live i 0#32 = gi v ((base p.funcs f + 2 + i : Nat) : Int)
 hd : s.held = List.replicate (List.getD p.funcs f []).length 0#32
 en : s.entry = 0#32
 ex : s.exit = 0#32
theorem A6 (p : ad) (hg : bo p) (bs : List Int) (hb : ia p bs) (v : List W32) (hv : v.length = base p.funcs p.funcs.length) : ∀ (m f : Nat) (t : List ab), f + m = p.funcs.length → t.length = f → (∀ g, g < f → vE p v g (sec t g)) → ∃ t', fi bs v t p.funcs (p.funcs.length : Int) (f : Int) = some t' ∧ t'.length = p.funcs.length ∧ ∀ g, g < p.funcs.length → vE p v g (sec t' g)
 | 0, f, t, h, hl, hget => by
  rw [fi, iN (by omega)]
  exact ⟨t, rfl, by omega, fun g hg => hget g (by omega)⟩
 | m + 1, f, t, h, hl, hget => by
  have hn := hg.funcs
  have hle := hg.le f
  have hb0 := eA (p := p) (f := f) (by omega) (k := 0) (by omega)
  have hb1 := eA (p := p) (f := f) (by omega) (k := 1) (by omega)
  obtain ⟨hd, q1, q2, q3⟩ := yD p hg bs hb v hv t (List.replicate (List.getD p.funcs f []).length 0#32) 0#32 0#32 (List.getD v (base p.funcs f) 0#32) (List.getD v (base p.funcs f + 1) 0#32) f (by omega) p.funcs (p.funcs.length : Int) (f : Int) (List.getD p.funcs f []).length 0 [] (Nat.zero_add _) rfl (fun k hk => by omega)
  rw [show ((0 : Nat) : Int) = 0 from rfl] at q1
  rw [fi, iP (by omega), iP (by omega), iP (by omega), bind_some (gF hb (by omega)), iP (by omega), iP (by omega), bind_some (om hg hb (by omega)), iP (by omega), iP (by omega), Int.toNat_natCast f, iP (by omega), if_pos (decide_eq_true (by simp only [aK]; omega)), Int.toNat_natCast, Int.toNat_natCast, Int.toNat_natCast, bind_some q1, if_pos (Nat.ble_eq_true_of_le (by simp only [List.length_singleton, aK]; omega)), inc f (by omega)]
  refine A6 p hg bs hb v hv m (f + 1) _ (by omega) (by rw [List.length_append, List.length_singleton]; omega) fun g hgf => ?_
  unfold sec
  rw [ic]
  split
  ·rename_i e
   subst e
   rw [hl]
   exact ⟨ot (by omega), ot (by omega), q2, q3, rfl, rfl, rfl⟩
  ·exact hget g (by omega)
theorem A7 {p : ad} {v : List W32} {t : List ab} (hv : v.length = base p.funcs p.funcs.length) (hl : t.length = p.funcs.length) (h : ∀ g, g < p.funcs.length → vE p v g (sec t g)) : vB p t v ∧ Shp p t :=
 ⟨⟨hv, fun f hf => (h f hf).ent.symm, fun f hf => (h f hf).exi.symm, fun f i hf hi => ((h f hf).nod i hi).symm⟩, hl, fun f hf => ⟨by rw [(h f hf).hd, List.length_replicate], (h f hf).hl⟩⟩
theorem A8 (p : ad) (hg : bo p) {bg : W32} (h : dJ p = some (bg, 0)) : ∃ v t, jv p = some (0, t) ∧ Lfp (eC p bg 0 p.funcs.length) (List.replicate (base p.funcs p.funcs.length) 0#32) v ∧ v.length = base p.funcs p.funcs.length ∧ t.length = p.funcs.length ∧ ∀ g, g < p.funcs.length → vE p v g (sec t g) := by
 have hn := hg.funcs
 have hbl := oj hg p.funcs.length
 have hrl := tu hg bg p.funcs.length 0
 obtain ⟨bs, b1, b2⟩ := zy p hg
 obtain ⟨v, v1, v2⟩ := Fm (base p.funcs p.funcs.length : Int) (eC p bg 0 p.funcs.length) (by omega)
 rw [if_pos (by omega), Int.toNat_natCast] at v2
 have hv : v.length = base p.funcs p.funcs.length := by rw [v2.len, List.length_replicate]
 obtain ⟨t, t1, t2, t3⟩ := A6 p hg bs b2 v hv p.funcs.length 0 [] (Nat.zero_add _) rfl (fun g h => by omega)
 rw [show ((0 : Nat) : Int) = 0 from rfl] at t1
 unfold jv
 rw [bind_some (Es p hg h), if_neg (show ¬ ((0 : Int) != 0) = true by decide), bind_some b1, bind_some v1, bind_some t1]
 exact ⟨v, t, rfl, v2, hv, t2, t3⟩
theorem Fu {p : ad} {bg : W32} {v w : List W32} (hv : Lfp (eC p bg 0 p.funcs.length) (List.replicate (base p.funcs p.funcs.length) 0#32) v) (hw : kR (eC p bg 0 p.funcs.length) (base p.funcs p.funcs.length) w) (j : Int) : sub (gi v j) (gi w j) :=
 hv.best w (by rw [List.length_replicate]; exact hw) (fun j => by
  intro i hi
  have : gi (List.replicate (base p.funcs p.funcs.length) 0#32) j = 0#32 := by
   unfold gi
   split
   ·simp only [List.getD, List.getElem?_replicate]
    split <;> rfl
   ·rfl
  rw [this] at hi
  simp at hi) j
theorem A9 (p : ad) (hg : bo p) {bg : W32} (h : dJ p = some (bg, 0)) : (∀ l, Shp p l → dS p l = some (zq p l bg, 0)) ∧ ∀ l, ¬ Shp p l → dS p l = some (⟨-1, -1, 1⟩, 0) := by
 have hn := hg.funcs.2
 refine ⟨fun l hs => ?_, fun l hs => ?_⟩
 ·obtain ⟨b, b1, b2⟩ := lW p l (by omega)
  have hb := b2.2 hs
  have h8 := E2 p hg l hs bg l.length 0 (by omega)
  rw [show ((0 : Nat) : Int) = 0 from rfl] at h8
  unfold dS
  rw [bind_some h, if_neg (show ¬ ((0 : Int) != 0) = true by decide), bind_some b1, hb, if_neg (by decide), bind_some h8]
  unfold zq
  cases cj (rW p l bg) 0 l.length with
  | some y => rfl
  | none => rfl
 ·obtain ⟨b, b1, b2⟩ := lW p l (by omega)
  have hb : b = false := by
   cases b with
   | false => rfl
   | true => exact absurd (b2.1 rfl) hs
  unfold dS
  rw [bind_some h, if_neg (show ¬ ((0 : Int) != 0) = true by decide), bind_some b1, hb, if_pos (by decide)]
theorem sub_zero {a : W32} (h : sub a 0#32) : a = 0#32 := by
 apply BitVec.eq_of_getLsbD_eq
 intro i hi
 cases hb : a.getLsbD i with
 | false => simp
 | true => have := h i hb; simp at this
abbrev B8 := BitVec 8
def eZ (n : Nat) : List B8 := if n < 128 then [BitVec.ofNat 8 n] else BitVec.ofNat 8 (128 + n % 128) :: eZ (n / 128)
 termination_by n
 decreasing_by omega
theorem zA {n : Nat} (h : n < 128) : eZ n = [BitVec.ofNat 8 n] := by rw [eZ, if_pos h]
theorem DE {n : Nat} (h : ¬ n < 128) : eZ n = BitVec.ofNat 8 (128 + n % 128) :: eZ (n / 128) := by rw [eZ, if_neg h]
theorem Ba : ∀ (k n : Nat), n < 128 ^ (k + 1) → (eZ n).length ≤ k + 1
 | 0, n, h => by rw [zA (by simpa using h)]; simp
 | k + 1, n, h => by
  by_cases h1 : n < 128
  ·rw [zA h1]; simp
  ·rw [DE h1, List.length_cons]
   have := Ba k (n / 128) (Nat.div_lt_of_lt_mul (by rw [Nat.pow_succ, Nat.mul_comm] at h; exact h))
   omega
theorem bu {n : Nat} (h : n < 4294967296) : (eZ n).length ≤ 5 := Ba 4 n (Nat.lt_of_lt_of_le h (by decide))
theorem Ie (x : BitVec 32) : (BitVec.setWidth 8 x ||| 128#8) = BitVec.ofNat 8 (128 + x.toNat % 128) := by
 apply BitVec.eq_of_toNat_eq
 have key : ∀ m, m < 256 → m ||| 128 = (128 + m % 128) % 256 := by decide
 rw [BitVec.toNat_or, BitVec.toNat_setWidth, BitVec.toNat_ofNat]
 show x.toNat % 256 ||| 128 = (128 + x.toNat % 128) % 256
 rw [key _ (Nat.mod_lt _ (by decide)), Nat.mod_mod_of_dvd _ (by decide : 128 ∣ 256)]
theorem pA {a : Nat} (h : a ≤ 100000000000000) : Nat.ble (a * 1) aK = true := Nat.ble_eq_true_of_le (by unfold aK; omega)
theorem Fv : ∀ (k : Nat) (x0 : List B8) (x1 : BitVec 32), x1.toNat < 128 ^ (k + 1) → x0.length + k ≤ 1000000000 → ∃ z y, eR x0 x1 = some (x0 ++ z, y) ∧ z.length ≤ k ∧ z ++ [BitVec.setWidth 8 y] = eZ x1.toNat
 | k, x0, x1, h, hl => by
  by_cases h1 : x1.toNat < 128
  ·refine ⟨[], x1, ?_, by simp, ?_⟩
   ·rw [eR, if_neg (by simp only [decide_eq_true_eq, BitVec.le_def]; show ¬ 128 ≤ x1.toNat; omega), List.append_nil]
   ·rw [zA h1]
    simp [← BitVec.ofNat_toNat]
  ·cases k with
   | zero => exact absurd (by simpa using h) h1
   | succ k =>
    have hs : (x1 >>> (BitVec.toNat (7#64))).toNat = x1.toNat / 128 := by
     rw [BitVec.toNat_ushiftRight, Nat.shiftRight_eq_div_pow]; rfl
    obtain ⟨z, y, q1, q2, q3⟩ := Fv k (x0 ++ [(BitVec.setWidth 8 x1) ||| (128#8)]) (x1 >>> (BitVec.toNat (7#64))) (by
     rw [hs]; exact Nat.div_lt_of_lt_mul (by rw [Nat.pow_succ, Nat.mul_comm] at h; exact h)) (by rw [List.length_append]; simp; omega)
    refine ⟨((BitVec.setWidth 8 x1) ||| (128#8)) :: z, y, ?_, by rw [List.length_cons]; omega, ?_⟩
    ·rw [eR, if_pos (by simp only [decide_eq_true_eq, BitVec.le_def]; show 128 ≤ x1.toNat; omega), if_pos (pA (by simp; omega)), q1, List.append_assoc]
     rfl
    ·rw [DE h1, List.cons_append, q3, hs, Ie]
theorem HF (n : BitVec 32) : mt n = some (eZ n.toNat) := by
 obtain ⟨z, y, q1, q2, q3⟩ := Fv 4 [] n (Nat.lt_of_lt_of_le n.isLt (by decide)) (by simp)
 unfold mt
 rw [bind_some q1]
 simp only [List.nil_append]
 rw [if_pos (pA (by simp; omega)), q3]
theorem jE (l : List B8) (n : Int) (h0 : 0 ≤ n) (h : n < 4294967296) (hl : l.length ≤ 1000000000) : aW l n = some (l ++ eZ n.toNat) := by
 have e : (BitVec.ofInt 32 n).toNat = n.toNat := by rw [BitVec.toNat_ofInt]; simp; omega
 unfold aW
 rw [bind_some (HF _), e, if_pos (pA (by have := bu (n := n.toNat) (by omega); omega))]
def Bb (x : ac) : List B8 := eZ x.kind.toNat ++ (if x.kind = 9 then [] else if x.kind = 0 then eZ x.next.toNat else if x.kind = 5 then eZ x.arg.toNat ++ (eZ x.next.toNat ++ eZ x.alt.toNat) else if x.kind = 8 then eZ x.next.toNat ++ eZ x.alt.toNat else eZ x.arg.toNat ++ eZ x.next.toNat)
def l9 (l : List ac) : Nat → Nat → List B8
 | _, 0 => []
 | i, m + 1 => Bb (List.getD l i ae) ++ l9 l (i + 1) m
def ma (fs : FS) : Nat → Nat → List B8
 | _, 0 => []
 | f, m + 1 => eZ (List.getD fs f []).length ++ l9 (List.getD fs f []) 0 (List.getD fs f []).length ++ ma fs (f + 1) m
def iL (p : ad) : List B8 := [97#8, 108#8, 112#8, 49#8] ++ (eZ p.globals.toNat ++ (eZ p.locks.toNat ++ (eZ p.slots.toNat ++ (eZ p.funcs.length ++ ma p.funcs 0 p.funcs.length))))
def Sm (x : ac) : Prop := (0 ≤ x.kind ∧ x.kind ≤ 9) ∧ (x.kind ≠ 9 → 0 ≤ x.next ∧ x.next < 65536) ∧ (x.kind ≠ 9 → x.kind ≠ 0 → x.kind ≠ 8 → 0 ≤ x.arg ∧ x.arg < 65536) ∧ (x.kind = 5 ∨ x.kind = 8 → 0 ≤ x.alt ∧ x.alt < 65536)
theorem Fw {p : ad} (hg : bo p) {f i : Nat} (hf : f < p.funcs.length) (hi : i < (List.getD p.funcs f []).length) : Sm (List.getD (List.getD p.funcs f []) i ae) := by
 have h := hg.node f i hf hi
 have h1 := hg.globals
 have h2 := hg.locks
 have h3 := hg.slots
 have h4 := hg.funcs
 have h5 := hg.le f
 generalize List.getD (List.getD p.funcs f []) i ae = x at h
 have k := h.kind
 refine ⟨k, fun h9 => ?_, fun h9 h0 h8 => ?_, fun hh => ?_⟩
 ·have := h.next h9; omega
 ·have a1 := h.glob; have a2 := h.lock; have a3 := h.spawn; have a4 := h.join; have a5 := h.call
  omega
 ·have a3 := h.spawn; have a6 := h.alt
  omega
theorem yE {x : ac} (h : Sm x) : (Bb x).length ≤ 20 := by
 obtain ⟨h1, h2, h3, h4⟩ := h
 have q0 := bu (n := x.kind.toNat) (by omega)
 unfold Bb
 rw [List.length_append]
 split
 ·simp; omega
 ·rename_i k9
  have q1 := bu (n := x.next.toNat) (by have := h2 k9; omega)
  split
  ·omega
  ·rename_i k0
   split
   ·have q2 := bu (n := x.arg.toNat) (by have := h3 k9 k0 (by omega); omega)
    have q3 := bu (n := x.alt.toNat) (by have := h4 (.inl ‹_›); omega)
    simp only [List.length_append]; omega
   ·split
    ·have q3 := bu (n := x.alt.toNat) (by have := h4 (.inr ‹_›); omega)
     simp only [List.length_append]; omega
    ·have q2 := bu (n := x.arg.toNat) (by have := h3 k9 k0 ‹_›; omega)
     simp only [List.length_append]; omega
theorem pB {l : List ac} (h : ∀ i, i < l.length → Sm (List.getD l i ae)) : ∀ (m i : Nat), i + m ≤ l.length → (l9 l i m).length ≤ 20 * m
 | 0, i, hi => by simp [l9]
 | m + 1, i, hi => by
  have h1 := yE (h i (by omega))
  have h2 := pB h m (i + 1) (by omega)
  simp only [l9, List.length_append]; omega
theorem yF (x1 : FS) (x2 x3 : Int) (l : List ac) (hle : l.length ≤ 65536) (h : ∀ i, i < l.length → Sm (List.getD l i ae)) : ∀ (m i : Nat) (b : List B8), i + m = l.length → b.length + 20 * m ≤ 1000000000 → bw b x1 x2 x3 l (l.length : Int) (i : Int) = some (b ++ l9 l i m)
 | 0, i, b, hi, hb => by
  rw [bw, iN (by omega), l9, List.append_nil]
 | m + 1, i, b, hi, hb => by
  rw [bw, iP (by omega), iP (by omega), iP (by omega), Int.toNat_natCast i, inc i (by omega)]
  have hx := h i (by omega)
  have hl := yE hx
  have hw := yF x1 x2 x3 l hle h m (i + 1) (b ++ Bb (List.getD l i ae)) (by omega) (by rw [List.length_append]; omega)
  rw [l9, ← List.append_assoc, ← hw]
  generalize List.getD l i ae = x at hx hl
  obtain ⟨h1, h2, h3, h4⟩ := hx
  have q0 := bu (n := x.kind.toNat) (by omega)
  rw [bind_some (jE b x.kind (by omega) (by omega) (by omega))]
  unfold ny Bb
  by_cases k9 : x.kind = 9
  ·rw [if_pos (eqT k9), if_pos k9, List.append_nil]
   rfl
  rw [if_neg (eqF k9), if_neg k9]
  have n2 := h2 k9
  have q1 := bu (n := x.next.toNat) (by omega)
  by_cases k0 : x.kind = 0
  ·rw [if_pos (eqT k0), if_pos k0]
   simp only [bind, Option.bind_some, gP, gO]
   rw [jE _ x.next (by omega) (by omega) (by rw [List.length_append]; omega)]
   simp only [Option.bind_some, List.append_assoc]
  rw [if_neg (eqF k0), if_neg k0]
  by_cases k5 : x.kind = 5
  ·have n3 := h3 k9 k0 (by omega)
   have n4 := h4 (.inl k5)
   have q2 := bu (n := x.arg.toNat) (by omega)
   rw [if_pos (eqT k5), if_pos k5]
   simp only [bind, Option.bind_some, gT, gS, gR, gQ]
   rw [jE _ x.arg (by omega) (by omega) (by rw [List.length_append]; omega)]
   simp only [Option.bind_some]
   rw [jE _ x.next (by omega) (by omega) (by simp only [List.length_append]; omega)]
   simp only [Option.bind_some]
   rw [jE _ x.alt (by omega) (by omega) (by simp only [List.length_append]; omega)]
   simp only [Option.bind_some, List.append_assoc]
  rw [if_neg (eqF k5), if_neg k5]
  by_cases k8 : x.kind = 8
  ·have n4 := h4 (.inr k8)
   rw [if_pos (eqT k8), if_pos k8]
   simp only [bind, Option.bind_some, gW, gV, gU]
   rw [jE _ x.next (by omega) (by omega) (by simp only [List.length_append]; omega)]
   simp only [Option.bind_some]
   rw [jE _ x.alt (by omega) (by omega) (by simp only [List.length_append]; omega)]
   simp only [Option.bind_some, List.append_assoc]
  ·have n3 := h3 k9 k0 k8
   have q2 := bu (n := x.arg.toNat) (by omega)
   rw [if_neg (eqF k8), if_neg k8]
   simp only [bind, Option.bind_some, gt, gr, gq]
   rw [jE _ x.arg (by omega) (by omega) (by simp only [List.length_append]; omega)]
   simp only [Option.bind_some]
   rw [jE _ x.next (by omega) (by omega) (by simp only [List.length_append]; omega)]
   simp only [Option.bind_some, List.append_assoc]
theorem vF {p : ad} (hg : bo p) : ∀ (m f : Nat), f + m ≤ p.funcs.length → (ma p.funcs f m).length ≤ 1285 * m
 | 0, f, hi => by simp [ma]
 | m + 1, f, hi => by
  have hle := hg.le f
  have h1 := pB (fun i hi' => Fw hg (f := f) (by omega) hi') (List.getD p.funcs f []).length 0 (by omega)
  have h2 := vF hg m (f + 1) (by omega)
  have h3 := bu (n := (List.getD p.funcs f []).length) (by omega)
  simp only [ma, List.length_append]; omega
theorem yG {p : ad} (hg : bo p) : ∀ (m f : Nat) (b : List B8), f + m = p.funcs.length → b.length + 1285 * m ≤ 100000000 → dB b p.funcs (p.funcs.length : Int) (f : Int) = some (b ++ ma p.funcs f m)
 | 0, f, b, hi, hb => by
  rw [dB, iN (by omega), ma, List.append_nil]
 | m + 1, f, b, hi, hb => by
  have hn := hg.funcs
  have hle := hg.le f
  have h3 := bu (n := (List.getD p.funcs f []).length) (by omega)
  have h1 := pB (fun i hi' => Fw hg (f := f) (by omega) hi') (List.getD p.funcs f []).length 0 (by omega)
  have hw := yG hg m (f + 1) (b ++ (eZ (List.getD p.funcs f []).length ++ l9 (List.getD p.funcs f []) 0 (List.getD p.funcs f []).length)) (by omega) (by simp only [List.length_append]; omega)
  rw [dB, iP (by omega), iP (by omega), iP (by omega), Int.toNat_natCast f, inc f (by omega), bind_some (jE b _ (by omega) (by omega) (by omega)), Int.toNat_natCast]
  have h16 := yF p.funcs (p.funcs.length : Int) (f : Int) (List.getD p.funcs f []) (by omega) (fun i hi' => Fw hg (f := f) (by omega) hi') (List.getD p.funcs f []).length 0 (b ++ eZ (List.getD p.funcs f []).length) (by omega) (by rw [List.length_append]; omega)
  rw [show ((0 : Nat) : Int) = 0 from rfl] at h16
  rw [bind_some h16, List.append_assoc, hw, ma]
  simp only [List.append_assoc]
theorem yH {p : ad} (hg : bo p) : (iL p).length ≤ 30000 := by
 have h1 := hg.globals; have h2 := hg.locks; have h3 := hg.slots; have h4 := hg.funcs
 have h := vF hg p.funcs.length 0 (by omega)
 have q1 := bu (n := p.globals.toNat) (by omega)
 have q2 := bu (n := p.locks.toNat) (by omega)
 have q3 := bu (n := p.slots.toNat) (by omega)
 have q4 := bu (n := p.funcs.length) (by omega)
 unfold iL
 simp only [List.length_append, List.length_cons, List.length_nil]
 omega
def Bc (l : List Int) : Nat → Nat → List B8
 | _, 0 => []
 | i, m + 1 => eZ (List.getD l i 0).toNat ++ Bc l (i + 1) m
theorem Bd (p : ad) (l : List Int) (hle : l.length ≤ 65536) (h : ∀ i, i < l.length → 0 ≤ List.getD l i 0 ∧ List.getD l i 0 < 65536) : ∀ (m i : Nat) (b : List B8), i + m = l.length → b.length + 5 * m ≤ 1000000000 → dm b l p.globals p.locks p.slots p.funcs (l.length : Int) (i : Int) = some (b ++ Bc l i m)
 | 0, i, b, hi, hb => by
  rw [dm, iN (by omega), Bc, List.append_nil]
 | m + 1, i, b, hi, hb => by
  have hx := h i (by omega)
  have q := bu (n := (List.getD l i 0).toNat) (by omega)
  have hw := Bd p l hle h m (i + 1) (b ++ eZ (List.getD l i 0).toNat) (by omega) (by rw [List.length_append]; omega)
  rw [dm, iP (by omega), iP (by omega), iP (by omega), Int.toNat_natCast i, inc i (by omega), bind_some (jE b _ hx.1 (by omega) (by omega)), hw, Bc, List.append_assoc]
theorem Cu {p : ad} (hg : bo p) (hk : aH p = some (0, 0, 0)) : kG p = some (0, iL p) := by
 have h1 := hg.globals; have h2 := hg.locks; have h3 := hg.slots; have h4 := hg.funcs
 have q1 := bu (n := p.globals.toNat) (by omega)
 have q2 := bu (n := p.locks.toNat) (by omega)
 have q3 := bu (n := p.slots.toNat) (by omega)
 have q4 := bu (n := p.funcs.length) (by omega)
 unfold kG
 rw [bind_some hk, if_neg (by decide)]
 unfold ja
 rw [if_pos (by decide), bind_some rfl, List.nil_append]
 have h7 := Bd p [p.globals, p.locks, p.slots, (p.funcs.length : Int)] (by simp) (fun i hi => by
  have : i = 0 ∨ i = 1 ∨ i = 2 ∨ i = 3 := by simp at hi; omega
  rcases this with rfl | rfl | rfl | rfl
  ·show 0 ≤ p.globals ∧ p.globals < 65536; omega
  ·show 0 ≤ p.locks ∧ p.locks < 65536; omega
  ·show 0 ≤ p.slots ∧ p.slots < 65536; omega
  ·show 0 ≤ (p.funcs.length : Int) ∧ (p.funcs.length : Int) < 65536; omega) 4 0 [97#8, 108#8, 112#8, 49#8] rfl (by simp)
 have e7 : Bc [p.globals, p.locks, p.slots, (p.funcs.length : Int)] 0 4 = eZ p.globals.toNat ++ (eZ p.locks.toNat ++ (eZ p.slots.toNat ++ (eZ p.funcs.length ++ []))) := rfl
 rw [e7, List.append_nil] at h7
 rw [bind_some (show dm [97#8, 108#8, 112#8, 49#8] [p.globals, p.locks, p.slots, (p.funcs.length : Int)] p.globals p.locks p.slots p.funcs _ 0 = _ from h7)]
 have h12 := yG hg p.funcs.length 0 ([97#8, 108#8, 112#8, 49#8] ++ (eZ p.globals.toNat ++ (eZ p.locks.toNat ++ (eZ p.slots.toNat ++ eZ p.funcs.length)))) (by omega) (by simp only [List.length_append, List.length_cons, List.length_nil]; omega)
 rw [show ((0 : Nat) : Int) = 0 from rfl] at h12
 have hl := yH hg
 have ep : [97#8, 108#8, 112#8, 49#8] ++ (eZ p.globals.toNat ++ (eZ p.locks.toNat ++ (eZ p.slots.toNat ++ eZ p.funcs.length))) ++ ma p.funcs 0 p.funcs.length = iL p := by
  unfold iL; simp only [List.append_assoc]
 rw [bind_some h12, ep]
 unfold gX
 rw [if_pos (pA (by simp; omega)), List.nil_append]
 rfl
def lz (x : W32) (n : Nat) : W32 := (x <<< (32 - n)) ||| (x >>> n)
theorem If (i : Nat) (h : i ≤ 1000000) : cu 4 (i : Int) = ((4 * i : Nat) : Int) := by rw [uu (by omega) (by omega)]; omega
theorem Ig (i : Nat) (h : i ≤ 1000000) : cu 8 (i : Int) = ((8 * i : Nat) : Int) := by rw [uu (by omega) (by omega)]; omega
theorem uq (i k : Nat) (h : i ≤ 1000000) (h2 : k ≤ i) : aN (i : Int) (k : Int) = ((i - k : Nat) : Int) := by rw [iH (by omega) (by omega)]; omega
theorem iM {α : Type} (f : Nat → α) (i : Nat) (v : α) : upd f i v i = v := by simp [upd]
theorem nc {α : Type} (f : Nat → α) {i j : Nat} (v : α) (h : j ≠ i) : upd f i v j = f j := by simp [upd, h]
theorem zB {α : Type} (f g : Nat → α) {n i : Nat} (h : i < n) : e9 f 0 n g i = g i := by unfold e9; rw [if_pos (by omega), Nat.sub_zero]
def yI (b : List B8) (i : Nat) : W32 := ((((BitVec.setWidth 32 (List.getD b (4 * i) 0#8)) <<< 24) ||| ((BitVec.setWidth 32 (List.getD b (4 * i + 1) 0#8)) <<< 16)) ||| ((BitVec.setWidth 32 (List.getD b (4 * i + 2) 0#8)) <<< 8)) ||| (BitVec.setWidth 32 (List.getD b (4 * i + 3) 0#8))
def yJ (w : Nat → W32) (i : Nat) : W32 := ((w (i - 16) + ((lz (w (i - 15)) 7 ^^^ lz (w (i - 15)) 18) ^^^ (w (i - 15) >>> 3))) + w (i - 7)) + ((lz (w (i - 2)) 17 ^^^ lz (w (i - 2)) 19) ^^^ (w (i - 2) >>> 10))
def wN (b : List B8) : Nat → Nat → W32
 | 0 => fun i => if i < 16 then yI b i else 0#32
 | k + 1 => upd (wN b k) (16 + k) (yJ (wN b k) (16 + k))
theorem Cv (b : List B8) (k j : Nat) : List.getD (List.drop k b) j 0#8 = List.getD b (k + j) 0#8 := by simp [List.getD]
theorem GK (b : List B8) (i : Nat) (h : 4 * i + 4 ≤ b.length) : rn (List.drop (4 * i) b) = some (yI b i) := by
 have hl : (List.drop (4 * i) b).length = b.length - 4 * i := by simp
 unfold rn
 rw [iP (by omega), iP (by omega), iP (by omega), iP (by omega)]
 simp only [Cv, Nat.add_zero]
 rfl
theorem yK (x0 : Nat → W32) (b : List B8) (hb : 64 ≤ b.length) : ∀ (m i : Nat) (x : Nat → W32), i + m = 16 → (∀ j, j < i → x j = yI b j) → ∃ y, dN x0 x b (i : Int) = some y ∧ ∀ j, j < 16 → y j = yI b j
 | 0, i, x, hi, h => by
  rw [dN, iN (by omega)]
  exact ⟨x, rfl, fun j hj => h j (by omega)⟩
 | m + 1, i, x, hi, h => by
  obtain ⟨y, q1, q2⟩ := yK x0 b hb m (i + 1) (upd x i (yI b i)) (by omega) (fun j hj => by
   by_cases e : j = i
   ·subst e; exact iM _ _ _
   ·rw [nc _ _ e]; exact h j (by omega))
  refine ⟨y, ?_, q2⟩
  rw [dN, iP (by omega), If i (by omega), iP (by omega), iP (by omega), Int.toNat_natCast (4 * i), List.take_of_length_le (Nat.le_refl _), bind_some (GK b i (by omega)), iP (by omega), iP (by omega), Int.toNat_natCast i, inc i (by omega)]
  exact q1
theorem ur (x : W32) : cb x 2 = some (lz x 2) ∧ cb x 6 = some (lz x 6) ∧ cb x 7 = some (lz x 7) ∧ cb x 11 = some (lz x 11) ∧ cb x 13 = some (lz x 13) ∧ cb x 17 = some (lz x 17) ∧ cb x 18 = some (lz x 18) ∧ cb x 19 = some (lz x 19) ∧ cb x 22 = some (lz x 22) ∧ cb x 25 = some (lz x 25) :=
 ⟨by kernel_rfl, by kernel_rfl, by kernel_rfl, by kernel_rfl, by kernel_rfl, by kernel_rfl, by kernel_rfl, by kernel_rfl, by kernel_rfl, by kernel_rfl⟩
theorem yL (x0 : Nat → W32) (b : List B8) : ∀ (m k : Nat) (x : Nat → W32), k + m = 48 → (∀ j, j < 16 + k → x j = wN b k j) → ∃ y, dP x0 x ((16 + k : Nat) : Int) = some y ∧ ∀ j, j < 64 → y j = wN b 48 j
 | 0, k, x, hk, h => by
  rw [dP, iN (by omega)]
  have : k = 48 := by omega
  subst this
  exact ⟨x, rfl, fun j hj => h j (by omega)⟩
 | m + 1, k, x, hk, h => by
  have e1 := uq (16 + k) 15 (by omega) (by omega)
  have e2 := uq (16 + k) 2 (by omega) (by omega)
  have e3 := uq (16 + k) 16 (by omega) (by omega)
  have e4 := uq (16 + k) 7 (by omega) (by omega)
  have hw : yJ x (16 + k) = yJ (wN b k) (16 + k) := by
   unfold yJ
   rw [h (16 + k - 16) (by omega), h (16 + k - 15) (by omega), h (16 + k - 7) (by omega), h (16 + k - 2) (by omega)]
  obtain ⟨y, q1, q2⟩ := yL x0 b m (k + 1) (upd x (16 + k) (yJ x (16 + k))) (by omega) (fun j hj => by
   show _ = upd (wN b k) (16 + k) (yJ (wN b k) (16 + k)) j
   by_cases e : j = 16 + k
   ·subst e; rw [iM, iM, hw]
   ·rw [nc _ _ e, nc _ _ e]; exact h j (by omega))
  refine ⟨y, ?_, q2⟩
  have t1 := ur (x (16 + k - 15))
  have t2 := ur (x (16 + k - 2))
  have e1 : aN ((16 + k : Nat) : Int) 15 = ((16 + k - 15 : Nat) : Int) := e1
  have e2 : aN ((16 + k : Nat) : Int) 2 = ((16 + k - 2 : Nat) : Int) := e2
  have e3 : aN ((16 + k : Nat) : Int) 16 = ((16 + k - 16 : Nat) : Int) := e3
  have e4 : aN ((16 + k : Nat) : Int) 7 = ((16 + k - 7 : Nat) : Int) := e4
  rw [dP, iP (by omega), e1, iP (by omega), iP (by omega), e2, iP (by omega), iP (by omega), e3, iP (by omega), iP (by omega),
   Int.toNat_natCast (16 + k - 15), Int.toNat_natCast (16 + k - 2), Int.toNat_natCast (16 + k - 16), bind_some t1.2.2.1, bind_some t1.2.2.2.2.2.2.1, e4, iP (by omega), iP (by omega), Int.toNat_natCast (16 + k - 7), bind_some t2.2.2.2.2.2.1, bind_some t2.2.2.2.2.2.2.2.1, iP (by omega), iP (by omega), Int.toNat_natCast (16 + k), inc (16 + k) (by omega)]
  exact q1
theorem Eu (b : List B8) (hb : 64 ≤ b.length) : ∃ y, mv b = some y ∧ ∀ j, j < 64 → y j = wN b 48 j := by
 obtain ⟨x, q1, q2⟩ := yK (fun _ => 0#32) b hb 16 0 (fun _ => 0#32) (by omega) (fun j hj => by omega)
 obtain ⟨y, q3, q4⟩ := yL (fun _ => 0#32) b 48 0 x (by omega) (fun j hj => by
  rw [q2 j (by omega)]
  show _ = if j < 16 then yI b j else 0#32
  rw [if_pos (by omega)])
 unfold mv
 rw [bind_some (show dN _ _ b 0 = _ from q1), bind_some (show dP _ x 16 = _ from q3)]
 exact ⟨_, rfl, fun j hj => by rw [zB _ _ hj]; exact q4 j hj⟩
def HG (s : Nat → W32) (k w : W32) : W32 := (((s 7 + ((lz (s 4) 6 ^^^ lz (s 4) 11) ^^^ lz (s 4) 25)) + ((s 4 &&& s 5) ^^^ (~~~(s 4) &&& s 6))) + k) + w
def Ih (s : Nat → W32) : W32 := ((lz (s 0) 2 ^^^ lz (s 0) 13) ^^^ lz (s 0) 22) + (((s 0 &&& s 1) ^^^ (s 0 &&& s 2)) ^^^ (s 1 &&& s 2))
def rnd (s : Nat → W32) (k w : W32) : Nat → W32 := fun i => if i = 0 then HG s k w + Ih s else if i = 4 then s 3 + HG s k w else if i < 8 then s (i - 1) else s i
def rds (w : Nat → W32) (s : Nat → W32) : Nat → Nat → W32
 | 0 => s
 | k + 1 => rnd (rds w s k) (yY k) (w k)
def comp (h : Nat → W32) (b : List B8) : Nat → W32 := fun i => if i < 8 then h i + rds (wN b 48) (e9 (fun _ => 0#32) 0 8 h) 64 i else h i
theorem HH (x : Nat → W32) (t u : W32) (k w : W32) (ht : t = HG x k w) (hu : u = t + Ih x) : upd (upd (e9 x 1 7 (fun i => x (hJ 0 i))) 4 ((e9 x 1 7 (fun i => x (hJ 0 i))) 4 + t)) 0 u = rnd x k w := by
 funext i
 subst hu ht
 unfold rnd
 by_cases h0 : i = 0
 ·subst h0; rw [iM, if_pos rfl]
 ·rw [nc _ _ h0, if_neg h0]
  by_cases h4 : i = 4
  ·subst h4; rw [iM, if_pos rfl]; rfl
  ·rw [nc _ _ h4, if_neg h4]
   unfold e9
   by_cases h8 : i < 8
   ·rw [if_pos (by omega), if_pos h8]; rfl
   ·rw [if_neg (by omega), if_neg h8]
theorem Fx (x0 : List B8) (x1 : Nat → W32) (w : Nat → W32) (hw : ∀ j, j < 64 → x1 j = w j) (s : Nat → W32) (x3 : Nat → W32) (x4 x5 : Nat) (x6 : BitVec 64) : ∀ (m k : Nat), k + m = 64 → bR x0 x1 (rds w s k) x3 x4 x5 x6 yY (k : Int) = some (rds w s 64)
 | 0, k, hk => by
  have : k = 64 := by omega
  subst this
  rw [bR, if_neg (by simp)]
 | m + 1, k, hk => by
  have ih := Fx x0 x1 w hw s x3 x4 x5 x6 m (k + 1) (by omega)
  have t1 := ur (rds w s k 4)
  have t2 := ur (rds w s k 0)
  rw [bR, iP (by omega), iP (by omega), iP (by omega), bind_some t1.2.1, bind_some t1.2.2.2.1, bind_some t1.2.2.2.2.2.2.2.2.2, bind_some t2.1, bind_some t2.2.2.2.2.1, bind_some t2.2.2.2.2.2.2.2.2.1, Int.toNat_natCast k, inc k (by omega), hw k (by omega)]
  exact (congrArg (fun z => bR x0 x1 z x3 x4 x5 x6 yY ((k + 1 : Nat) : Int)) (HH (rds w s k) _ _ (yY k) (w k) rfl rfl)).trans ih
theorem DF (x0 : List B8) (r h : Nat → W32) (x3 x4 : Nat) (x5 : BitVec 64) : ∀ (m k : Nat) (x : Nat → W32), k + m = 8 → (∀ j, x j = if j < k then h j + r j else h j) → ∃ y, bT x0 r x x3 x4 x5 (k : Int) = some y ∧ ∀ j, y j = if j < 8 then h j + r j else h j
 | 0, k, x, hk, hx => by
  have : k = 8 := by omega
  subst this
  rw [bT, if_neg (by simp)]
  exact ⟨x, rfl, hx⟩
 | m + 1, k, x, hk, hx => by
  obtain ⟨y, q1, q2⟩ := DF x0 r h x3 x4 x5 m (k + 1) (upd x k (x k + r k)) (by omega) (fun j => by
   by_cases e : j = k
   ·subst e; rw [iM, if_pos (by omega), hx, if_neg (by omega)]
   ·rw [nc _ _ e, hx]
    by_cases h1 : j < k
    ·rw [if_pos h1, if_pos (by omega)]
    ·rw [if_neg h1, if_neg (by omega)])
  refine ⟨y, ?_, q2⟩
  rw [bT, iP (by omega), iP (by omega), iP (by omega), Int.toNat_natCast k, inc k (by omega)]
  exact q1
theorem HI (l1 : List B8) (h : Nat → W32) (lo n : Nat) (c : BitVec 64) (b : List B8) (hb : 64 ≤ b.length) : iE l1 h lo n c b = some (comp h b) := by
 obtain ⟨y, q1, q2⟩ := Eu b hb
 unfold iE
 have q3 := Fx l1 (e9 (fun _ => 0#32) 0 64 y) (wN b 48) (fun j hj => by rw [zB _ _ hj]; exact q2 j hj) (e9 (fun _ => 0#32) 0 8 h) h lo n c 64 0 (by omega)
 obtain ⟨z, q4, q5⟩ := DF l1 (rds (wN b 48) (e9 (fun _ => 0#32) 0 8 h) 64) h lo n c 8 0 h (by omega) (fun j => by rw [if_neg (by omega)])
 rw [bind_some q1, bind_some (show bR l1 (e9 (fun _ => 0#32) 0 64 y) (e9 (fun _ => 0#32) 0 8 h) h lo n c yY 0 = _ from q3), bind_some (show bT l1 _ h lo n c 0 = _ from q4)]
 congr 1
 funext j
 exact q5 j
def blk (h : Nat → W32) (l : List B8) : Nat → Nat → W32
 | 0 => h
 | k + 1 => comp (blk h l k) (List.take 64 (List.drop (64 * k) l))
theorem DG (h : Nat → W32) (t b : List B8) : ∀ k, 64 * k ≤ t.length → blk h (t ++ b) k = blk h t k
 | 0, _ => rfl
 | k + 1, hk => by
  simp only [blk]
  rw [DG h t b k (by omega), List.drop_append_of_le_length (by omega), List.take_append_of_le_length (by simp; omega)]
theorem DH (h : Nat → W32) (l : List B8) (q : Nat) : ∀ k, blk (blk h l q) (List.drop (64 * q) l) k = blk h l (q + k)
 | 0 => rfl
 | k + 1 => by
  simp only [blk]
  rw [DH h l q k, List.drop_drop, show 64 * q + 64 * k = 64 * (q + k) by omega]
  rfl
theorem Be (x0 l : List B8) (h : Nat → W32) (x3 x4 : Nat) (x5 : BitVec 64) (hl : l.length ≤ 1000000000) : ∀ (m j : Nat), j + m = l.length / 64 → bL x0 l (blk h l j) x3 x4 x5 (64 * j) (l.length - 64 * j) = some (blk h l (l.length / 64), 64 * (l.length / 64), l.length - 64 * (l.length / 64))
 | 0, j, hj => by
  rw [bL, iN (by omega)]
  rw [show j = l.length / 64 by omega]
 | m + 1, j, hj => by
  have ih := Be x0 l h x3 x4 x5 hl m (j + 1) (by omega)
  rw [bL, iP (by omega), iP (by omega), fU, fU, iP (by omega), Nat.add_zero, bind_some (HI x0 (blk h l j) x3 x4 x5 _ (by simp; omega)), show 64 * j + 64 = 64 * (j + 1) by omega, show l.length - 64 * j - 64 = l.length - 64 * (j + 1) by omega]
  exact ih
def H0 (i : Nat) : W32 := List.getD [1779033703#32, 3144134277#32, 1013904242#32, 2773480762#32, 1359893119#32, 2600822924#32, 528734635#32, 1541459225#32] i (0#32)
structure Rep (l1 : List B8) (h : Nat → W32) (lo n : Nat) (c : BitVec 64) (t : List B8) : Prop where
 hh : h = blk H0 t (t.length / 64)
 left : List.take n (List.drop lo l1) = List.drop (64 * (t.length / 64)) t
 nn : n = t.length - 64 * (t.length / 64)
 fits : lo + n ≤ l1.length
 cc : c = BitVec.ofNat 64 t.length
theorem ou {l1 : List B8} {h : Nat → W32} {lo n : Nat} {c : BitVec 64} {t : List B8} (r : Rep l1 h lo n c t) (b : List B8) (hs : t.length + b.length ≤ 100000000) : ∃ l' h' lo' n' c', cP l1 h lo n c b = some (l', h', lo', n', c') ∧ Rep l' h' lo' n' c' (t ++ b) := by
 have hq := r.nn
 have hL : (List.drop (64 * (t.length / 64)) t ++ b) = List.drop (64 * (t.length / 64)) (t ++ b) := (List.drop_append_of_le_length (by omega)).symm
 have hn : (List.drop (64 * (t.length / 64)) (t ++ b)).length = t.length + b.length - 64 * (t.length / 64) := by simp
 have hd : t.length / 64 + (t.length + b.length - 64 * (t.length / 64)) / 64 = (t ++ b).length / 64 := by rw [List.length_append]; omega
 have w := Be l1 (List.drop (64 * (t.length / 64)) (t ++ b)) h lo n (c + BitVec.ofInt 64 (b.length : Int)) (by rw [hn]; omega) ((List.drop (64 * (t.length / 64)) (t ++ b)).length / 64) 0 (by omega)
 rw [Nat.mul_zero, Nat.sub_zero] at w
 have w : bL l1 (List.drop (64 * (t.length / 64)) (t ++ b)) h lo n (c + BitVec.ofInt 64 (b.length : Int)) 0 (List.drop (64 * (t.length / 64)) (t ++ b)).length = _ := w
 refine ⟨(List.drop (64 * (t.length / 64)) (t ++ b)), blk h (List.drop (64 * (t.length / 64)) (t ++ b)) ((List.drop (64 * (t.length / 64)) (t ++ b)).length / 64), 64 * ((List.drop (64 * (t.length / 64)) (t ++ b)).length / 64), (List.drop (64 * (t.length / 64)) (t ++ b)).length - 64 * ((List.drop (64 * (t.length / 64)) (t ++ b)).length / 64), c + BitVec.ofInt 64 (b.length : Int), ?_, ?_⟩
 ·unfold cP
  rw [if_pos (decide_eq_true r.fits), if_pos (pA (by simp; omega)), List.nil_append, r.left, if_pos (pA (by simp; omega)), hL, bind_some w]
 ·refine ⟨?_, ?_, ?_, ?_, ?_⟩
  ·rw [hn, r.hh, ← DG H0 t b _ (by omega), DH, hd]
  ·rw [hn, List.take_of_length_le (by simp; omega), List.drop_drop, show 64 * (t.length / 64) + 64 * ((t.length + b.length - 64 * (t.length / 64)) / 64) = 64 * (t.length / 64 + (t.length + b.length - 64 * (t.length / 64)) / 64) by omega, hd]
  ·rw [hn, ← hd, List.length_append]; omega
  ·rw [hn]; omega
  ·rw [r.cc, List.length_append]
   apply BitVec.eq_of_toNat_eq
   rw [BitVec.toNat_add, BitVec.toNat_ofInt, BitVec.toNat_ofNat, BitVec.toNat_ofNat]
   omega
def pz (n : Nat) : Nat := (64 + 56 - n % 64) % 64
theorem Fy (x0 : List B8) (x1 : Nat → B8) (x3 : Nat → W32) (x4 x5 : Nat) (x6 x11 : BitVec 64) : ∀ (m : Nat) (l1 : List B8) (h : Nat → W32) (lo n : Nat) (c : BitVec 64) (t : List B8), m = pz t.length → t.length + m ≤ 90000000 → Rep l1 h lo n c t → ∃ l' h' lo' n' c', da x0 x1 l1 x3 x4 x5 x6 h lo n c x11 = some (l', h', lo', n', c') ∧ Rep l' h' lo' n' c' (t ++ List.replicate m 0#8)
 | 0, l1, h, lo, n, c, t, hm, hs, r => by
  have hn := r.nn
  unfold pz at hm
  rw [da, if_neg (by simp only [bne_iff_ne, ne_eq, Decidable.not_not]; omega)]
  exact ⟨_, _, _, _, _, rfl, by rw [List.replicate_zero, List.append_nil]; exact r⟩
 | m + 1, l1, h, lo, n, c, t, hm, hs, r => by
  have hn := r.nn
  unfold pz at hm
  obtain ⟨a1, a2, a3, a4, a5, w, r'⟩ := ou r [0#8] (by simp; omega)
  have hp : pz (t ++ [0#8]).length = m := by unfold pz; rw [List.length_append, List.length_singleton]; omega
  obtain ⟨b1, b2, b3, b4, b5, w2, r2⟩ := Fy x0 x1 x3 x4 x5 x6 x11 m a1 a2 a3 a4 a5 (t ++ [0#8]) hp.symm (by simp; omega) r'
  refine ⟨b1, b2, b3, b4, b5, ?_, ?_⟩
  ·rw [da, if_pos (by simp only [bne_iff_ne, ne_eq]; omega), bind_some w]
   exact w2
  ·rw [List.append_assoc] at r2
   exact r2
def Bf (n : Nat) : List B8 := (List.range 8).map fun i => BitVec.setWidth 8 ((BitVec.ofNat 64 n * 8#64) >>> (56 - 8 * i))
theorem Fz (x0 : List B8) (x1 : Nat → B8) (x2 : List B8) (x4 : Nat → W32) (x5 x6 : Nat) (x7 : BitVec 64) (x8 : Nat → W32) (x9 x10 : Nat) (x11 x12 : BitVec 64) : ∀ (m k : Nat) (x : Nat → B8), k + m = 8 → (∀ j, j < k → x j = BitVec.setWidth 8 (x12 >>> (56 - 8 * j))) → ∃ y, cw x0 x1 x2 x x4 x5 x6 x7 x8 x9 x10 x11 x12 (k : Int) = some y ∧ ∀ j, j < 8 → y j = BitVec.setWidth 8 (x12 >>> (56 - 8 * j))
 | 0, k, x, hk, hx => by
  rw [cw, iN (by omega)]
  exact ⟨x, rfl, fun j hj => hx j (by omega)⟩
 | m + 1, k, x, hk, hx => by
  have e1 : aN 56 ((8 * k : Nat) : Int) = ((56 - 8 * k : Nat) : Int) := by rw [iH (by omega) (by omega)]; omega
  obtain ⟨y, q1, q2⟩ := Fz x0 x1 x2 x4 x5 x6 x7 x8 x9 x10 x11 x12 m (k + 1) (upd x k (BitVec.setWidth 8 (x12 >>> (56 - 8 * k)))) (by omega) (fun j hj => by
   by_cases e : j = k
   ·subst e; exact iM _ _ _
   ·rw [nc _ _ e]; exact hx j (by omega))
  refine ⟨y, ?_, q2⟩
  rw [cw, iP (by omega), Ig k (by omega), e1, iP (by omega), iP (by omega), iP (by omega), Int.toNat_natCast k, Int.toNat_natCast (56 - 8 * k), inc k (by omega)]
  exact q1
def Ew (h : Nat → W32) (i : Nat) : B8 := BitVec.setWidth 8 (h (i / 4) >>> (24 - 8 * (i % 4)))
theorem DI (x0 : List B8) (x1 : Nat → B8) (x3 : Nat → W32) (x4 x5 : Nat) (x6 : BitVec 64) (h : Nat → W32) (q : Nat) (hq : q < 8) (x10 : Int) : ∀ (m k : Nat) (x : Nat → B8), k + m = 4 → (∀ j, j < 4 * q + k → x j = Ew h j) → ∃ y, bU x0 x1 x x3 x4 x5 x6 (q : Int) (h q) h x10 (k : Int) = some y ∧ ∀ j, j < 4 * (q + 1) → y j = Ew h j
 | 0, k, x, hk, hx => by
  rw [bU, iN (by omega)]
  exact ⟨x, rfl, fun j hj => hx j (by omega)⟩
 | m + 1, k, x, hk, hx => by
  have e1 : aN 24 ((8 * k : Nat) : Int) = ((24 - 8 * k : Nat) : Int) := by rw [iH (by omega) (by omega)]; omega
  have e2 : av ((4 * q : Nat) : Int) (k : Int) = ((4 * q + k : Nat) : Int) := by rw [dI (by omega) (by omega)]; omega
  obtain ⟨y, q1, q2⟩ := DI x0 x1 x3 x4 x5 x6 h q hq x10 m (k + 1) (upd x (4 * q + k) (BitVec.setWidth 8 (h q >>> (24 - 8 * k)))) (by omega) (fun j hj => by
   by_cases e : j = 4 * q + k
   ·subst e
    rw [iM]
    unfold Ew
    rw [show (4 * q + k) / 4 = q by omega, show (4 * q + k) % 4 = k by omega]
   ·rw [nc _ _ e]; exact hx j (by omega))
  refine ⟨y, ?_, q2⟩
  rw [bU, iP (by omega), Ig k (by omega), e1, iP (by omega), If q (by omega), e2, iP (by omega), iP (by omega), Int.toNat_natCast (4 * q + k), Int.toNat_natCast (24 - 8 * k), inc k (by omega)]
  exact q1
theorem DJ (x0 : List B8) (x1 : Nat → B8) (x3 : Nat → W32) (x4 x5 : Nat) (x6 : BitVec 64) (h : Nat → W32) : ∀ (m q : Nat) (x : Nat → B8), q + m = 8 → (∀ j, j < 4 * q → x j = Ew h j) → ∃ y, bV x0 x1 x x3 x4 x5 x6 h (q : Int) = some y ∧ ∀ j, j < 32 → y j = Ew h j
 | 0, q, x, hq, hx => by
  rw [bV, iN (by omega)]
  exact ⟨x, rfl, fun j hj => hx j (by omega)⟩
 | m + 1, q, x, hq, hx => by
  obtain ⟨y, q1, q2⟩ := DI x0 x1 x3 x4 x5 x6 h q (by omega) (q : Int) 4 0 x (by omega) hx
  obtain ⟨z, q3, q4⟩ := DJ x0 x1 x3 x4 x5 x6 h m (q + 1) y (by omega) q2
  refine ⟨z, ?_, q4⟩
  rw [bV, iP (by omega), iP (by omega), iP (by omega), Int.toNat_natCast q, bind_some (show bU x0 x1 x x3 x4 x5 x6 (q : Int) (h q) h (q : Int) 0 = _ from q1), inc q (by omega)]
  exact q3
def Ii (t : List B8) : List B8 := ((t ++ [128#8]) ++ List.replicate (pz (t.length + 1)) 0#8) ++ Bf t.length
def mb (t : List B8) (i : Nat) : B8 := if i < 32 then Ew (blk H0 (Ii t) ((Ii t).length / 64)) i else 0#8
theorem Ey (v : Nat → B8) (n : Nat) (h : ∀ j, j < 8 → v j = BitVec.setWidth 8 ((BitVec.ofNat 64 n * 8#64) >>> (56 - 8 * j))) : z3 v 0 8 = Bf n := by
 unfold Bf
 show [v 0, v 1, v 2, v 3, v 4, v 5, v 6, v 7] = _
 rw [h 0 (by omega), h 1 (by omega), h 2 (by omega), h 3 (by omega), h 4 (by omega), h 5 (by omega), h 6 (by omega), h 7 (by omega)]
 rfl
theorem HJ {l1 : List B8} {h : Nat → W32} {lo n : Nat} {c : BitVec 64} {t : List B8} (r : Rep l1 h lo n c t) (hs : t.length ≤ 80000000) : iF l1 h lo n c = some (mb t) := by
 have hn := r.nn
 have hl : (List.take n (List.drop lo l1)).length = n := by rw [r.left]; simp; omega
 have r0 : Rep (List.take n (List.drop lo l1)) h 0 (List.take n (List.drop lo l1)).length c t := by
  refine ⟨r.hh, ?_, ?_, ?_, r.cc⟩
  ·rw [List.drop_zero, List.take_length, r.left]
  ·rw [hl]; exact hn
  ·omega
 obtain ⟨a1, a2, a3, a4, a5, w, r1⟩ := ou r0 [128#8] (by simp; omega)
 have hp : pz (t ++ [128#8]).length ≤ 64 := by unfold pz; omega
 obtain ⟨b1, b2, b3, b4, b5, w2, r2⟩ := Fy l1 (fun _ => 0#8) h lo n c (c * 8#64) _ a1 a2 a3 a4 a5 (t ++ [128#8]) rfl (by simp at hp ⊢; omega) r1
 obtain ⟨y, w3, q3⟩ := Fz l1 (fun _ => 0#8) b1 h lo n c b2 b3 b4 b5 (c * 8#64) 8 0 (fun _ => 0#8) (by omega) (fun j hj => by omega)
 have ht : z3 y 0 8 = Bf t.length := Ey y _ (fun j hj => by rw [q3 j hj, r.cc])
 obtain ⟨d1, d2, d3, d4, d5, w4, r4⟩ := ou r2 (z3 y 0 8) (by rw [ht]; simp [Bf] at hp ⊢; omega)
 obtain ⟨z, w5, q5⟩ := DJ l1 (fun _ => 0#8) h lo n c d2 8 0 (fun _ => 0#8) (by omega) (fun j hj => by omega)
 unfold iF
 rw [if_pos (decide_eq_true r.fits), if_pos (pA (by simp; omega)), List.nil_append, bind_some w, bind_some w2, bind_some (show cw l1 _ b1 _ h lo n c b2 b3 b4 b5 (c * 8#64) 0 = _ from w3), bind_some w4, bind_some (show bV l1 _ (fun _ => 0#8) h lo n c d2 0 = _ from w5)]
 congr 1
 funext i
 unfold mb
 by_cases hi : i < 32
 ·rw [zB _ _ hi, if_pos hi, q5 i hi]
  have := r4.hh
  rw [ht, List.length_append, List.length_singleton] at this
  rw [this]
  rfl
 ·rw [if_neg hi]; unfold e9; rw [if_neg (by omega)]
theorem Ij (b : List B8) (hs : b.length ≤ 80000000) : zO [b] = some (mb b) := by
 have r0 : Rep [] H0 0 0 0#64 [] := ⟨rfl, rfl, rfl, Nat.le_refl _, rfl⟩
 obtain ⟨a1, a2, a3, a4, a5, w, r1⟩ := ou r0 b (by simp; omega)
 rw [List.nil_append] at r1
 have hN : zM = some ([], H0, 0#64) := rfl
 have hl : gy (fun _ => 0#8) [] H0 0 0 0#64 [b] 1 0 = some (a1, a2, a3, a4, a5) := by
  rw [gy, if_pos (decide_eq_true (by decide)), if_pos (decide_eq_true (by decide)), if_pos (decide_eq_true (by simp))]
  show (cP [] H0 0 0 0#64 b >>= _) = _
  rw [bind_some w, show av 0 1 = 1 by kernel_rfl, gy, if_neg (by decide)]
 unfold zO
 rw [bind_some hN]
 show (gy (fun _ => 0#8) [] H0 0 0 0#64 [b] 1 0 >>= _) = _
 rw [bind_some hl, bind_some (HJ r1 hs)]
 congr 1
 funext i
 unfold e9 mb
 by_cases hi : i < 32
 ·rw [if_pos (by omega), if_pos hi, Nat.sub_zero, if_pos hi]
 ·rw [if_neg (by omega), if_neg hi]
theorem nf {p : ad} (hg : bo p) (hk : aH p = some (0, 0, 0)) : fk p = some (mb (iL p), 0) := by
 have hl := yH hg
 unfold fk
 rw [bind_some (Cu hg hk)]
 simp only []
 rw [if_neg (by decide), bind_some (Ij (iL p) (by omega))]
 congr 2
 funext i
 unfold e9 mb
 by_cases hi : i < 32
 ·rw [if_pos (by omega), if_pos hi, Nat.sub_zero, if_pos hi]
 ·rw [if_neg (by omega), if_neg hi]
abbrev t8 (s : Nat → W32) : W32 × W32 × W32 × W32 × W32 × W32 × W32 × W32 := (s 0, s 1, s 2, s 3, s 4, s 5, s 6, s 7)
abbrev h8 (h : Nat → W32) : List W32 := [h 0, h 1, h 2, h 3, h 4, h 5, h 6, h 7]
def pC (j : ai) (locks : Int) : Bool := if j.kind = 2 then decide (0 ≤ j.lock) && decide (j.lock < locks) else if j.kind = 0 then j.lock == 0 else if j.kind = 1 then j.lock == 0 else false
theorem FA (j : ai) (locks : Int) : ks j locks = some (pC j locks) := by
 unfold ks pC
 by_cases h2 : j.kind = 2
 ·rw [if_pos (eqT h2), if_pos h2]
  by_cases h0 : 0 ≤ j.lock
  ·rw [if_pos (decide_eq_true h0), decide_eq_true h0, Bool.true_and]
  ·rw [if_neg (by simpa using h0), decide_eq_false h0, Bool.false_and]
 ·rw [if_neg (eqF h2), if_neg h2]
  by_cases h0 : j.kind = 0
  ·rw [if_pos (eqT h0), if_pos h0]
  ·rw [if_neg (eqF h0), if_neg h0]
   by_cases h1 : j.kind = 1
   ·rw [if_pos (eqT h1), if_pos h1]
   ·rw [if_neg (eqF h1), if_neg h1]
def acc (x : ac) : Bool := x.kind == 1 || x.kind == 2
def pD (j : ai) (w : Bool) (h l : W32) : Bool := if l = 0#32 then true else if j.kind = 1 then !w else if j.kind = 2 then eW h j.lock else false
theorem FB (j : ai) (w : Bool) (h l : W32) : kt j w h l = some (pD j w h l) := by
 unfold kt pD
 by_cases h0 : l = 0#32
 ·rw [if_pos (by simpa using h0), if_pos h0]
 ·rw [if_neg (by simpa using h0), if_neg h0]
  by_cases h1 : j.kind = 1
  ·rw [if_pos (eqT h1), if_pos h1]
  ·rw [if_neg (eqF h1), if_neg h1]
   by_cases h2 : j.kind = 2
   ·rw [if_pos (eqT h2), if_pos h2, bind_some (show cH h j.lock = some (eW h j.lock) from mQ _ _)]
   ·rw [if_neg (eqF h2), if_neg h2]
theorem Ez (x : ac) : iO x = some (x.arg, x.kind == 2, acc x) := by
 unfold iO acc
 by_cases h : x.kind = 1
 ·rw [if_pos (eqT h), eqT h]; rfl
 ·rw [if_neg (eqF h), show (x.kind == 1) = false by simpa using h]; rfl
abbrev jus (js : List ai) (i : Int) : ai := List.getD js i.toNat aB
def grd (p : ad) (l : List ab) (js : List ai) (f i : Nat) : Bool := !acc (nde p f i) || pD (jus js (nde p f i).arg) ((nde p f i).kind == 2) (hld l f i) (liv l f i)
def Cw (p : ad) (l : List ab) (js : List ai) (f i : Nat) : Option Unit := if grd p l js f i = true then none else some ()
def m16 : Option (Nat × Unit) → cA
 | some (k, _) => .x0 k 8 0
 | none => .x1
theorem yM (p : ad) (hg : bo p) (l : List ab) (hs : Shp p l) (js : List ai) (hj : (js.length : Int) = p.globals) (f : Nat) (hf : f < p.funcs.length) (x7 x8 : Int) : ∀ (m i : Nat), i + m = (List.getD p.funcs f []).length → cf 0 0 0 l js (f : Int) p.funcs x7 x8 (List.getD p.funcs f []) ((List.getD p.funcs f []).length : Int) (i : Int) = some (m16 (cj (Cw p l js f) i m))
 | 0, i, h => by rw [cf, iN (by omega)]; rfl
 | m + 1, i, h => by
  have hle := hg.le f
  have ih := yM p hg l hs js hj f hf x7 x8 m (i + 1) (by omega)
  have hl := hs.1
  have h1 : (List.getD l f aa).held.length = (List.getD p.funcs f []).length := (hs.2 f hf).1
  have h2 : (List.getD l f aa).live.length = (List.getD p.funcs f []).length := (hs.2 f hf).2
  have hgl : acc (nde p f i) = true → 0 ≤ (nde p f i).arg ∧ (nde p f i).arg < p.globals := fun ha => (hg.node f i hf (by omega)).glob (by simpa [acc] using ha)
  have hsolo : jK (List.getD l f aa) (i : Int) = some (liv l f i == 0#32) := by
   unfold jK
   rw [iP (by omega), iP (by omega), iP (by omega), iP (by omega), Int.toNat_natCast i]
  rw [cf, iP (by omega), iP (by omega), iP (by omega), Int.toNat_natCast i, bind_some (Ez _), inc i (by omega), fc, Int.toNat_natCast f]
  unfold Cw
  by_cases ha : acc (nde p f i) = true
  ·have hg2 := hgl ha
   have hg2 : 0 ≤ (List.getD (List.getD p.funcs f []) i ae).arg ∧ (List.getD (List.getD p.funcs f []) i ae).arg < p.globals := hg2
   by_cases h0 : liv l f i = 0#32
   ·rw [if_pos ha, iP (by omega), iP (by omega), bind_some (show jK (List.getD l f aa) (i : Int) = some true by rw [hsolo, h0]; rfl), if_neg (by decide), if_pos (by unfold grd pD; rw [if_pos h0]; simp), ih]
    rfl
   ·rw [if_pos ha, iP (by omega), iP (by omega), bind_some (show jK (List.getD l f aa) (i : Int) = some false by rw [hsolo, show (liv l f i == 0#32) = false by simpa using h0]), if_pos (by decide), if_pos (decide_eq_true hg2.1), iP (by omega), iP (by omega), iP (by omega), bind_some (FB _ _ _ _)]
    have hgr : grd p l js f i = pD (jus js (nde p f i).arg) ((nde p f i).kind == 2) (hld l f i) (liv l f i) := by unfold grd; rw [ha]; simp
    cases hh : pD (jus js (nde p f i).arg) ((nde p f i).kind == 2) (hld l f i) (liv l f i) with
    | true =>
     rw [if_neg (by decide), if_pos (hgr.trans hh), ih]
     rfl
    | false =>
     rw [if_pos (by decide), if_neg (by rw [hgr, hh]; decide)]
     rfl
  ·rw [if_neg ha, if_pos (by unfold grd; rw [show acc (nde p f i) = false by simpa using ha]; rfl), ih]
   rfl
def fgO (p : ad) (l : List ab) (js : List ai) (f : Nat) : Option Nat := (cj (Cw p l js f) 0 (List.getD p.funcs f []).length).map fun x => x.1
def Iv : Option (Nat × Nat) → cB
 | some (f, k) => .x0 f k 8 0
 | none => .x1
theorem yN (p : ad) (hg : bo p) (l : List ab) (hs : Shp p l) (js : List ai) (hj : (js.length : Int) = p.globals) : ∀ (m f : Nat), f + m = p.funcs.length → dw 0 0 0 l js p.funcs (p.funcs.length : Int) (f : Int) = some (Iv (cj (fgO p l js) f m))
 | 0, f, h => by rw [dw, iN (by omega)]; rfl
 | m + 1, f, h => by
  have hn := hg.funcs.2
  have h16 := yM p hg l hs js hj f (by omega) (p.funcs.length : Int) (f : Int) (List.getD p.funcs f []).length 0 (by omega)
  rw [show ((0 : Nat) : Int) = 0 from rfl] at h16
  rw [dw, iP (by omega), iP (by omega), iP (by omega), Int.toNat_natCast f, bind_some h16, inc f (by omega), yN p hg l hs js hj m (f + 1) (by omega), fc]
  unfold fgO
  cases cj (Cw p l js f) 0 (List.getD p.funcs f []).length with
  | none => rfl
  | some z => rfl
def Cx (p : ad) (js : List ai) (i : Nat) : Option Unit := if pC (List.getD js i aB) p.locks = true then none else some ()
def m7g : Option (Nat × Unit) → cU
 | some (k, _) => .x0 (-1) k 8 0
 | none => .x1
theorem Bg (p : ad) (l : List ab) (js : List ai) (hj : js.length ≤ 1000) : ∀ (m i : Nat), i + m = js.length → dY p.globals p.locks p.slots p.funcs 0 0 0 l js js (js.length : Int) (i : Int) = some (m7g (cj (Cx p js) i m))
 | 0, i, h => by rw [dY, iN (by omega)]; rfl
 | m + 1, i, h => by
  rw [dY, iP (by omega), iP (by omega), iP (by omega), Int.toNat_natCast i, bind_some (FA _ _), inc i (by omega), Bg p l js hj m (i + 1) (by omega), fc]
  unfold Cx
  cases hr : pC (List.getD js i aB) p.locks with
  | true => rw [if_neg (by decide), if_pos rfl]
  | false => rw [if_pos (by decide), if_neg (by decide)]; rfl
def fg (p : ad) (l : List ab) (js : List ai) : aA := match cj (Cx p js) 0 js.length with
 | some (j, _) => ⟨-1, j, 8⟩
 | none => match cj (fgO p l js) 0 p.funcs.length with
  | some (f, k) => ⟨f, k, 8⟩
  | none => ⟨0, 0, 0⟩
theorem Cy (p : ad) (hg : bo p) (hk : aH p = some (0, 0, 0)) (l : List ab) (hs : Shp p l) (js : List ai) (hj : (js.length : Int) = p.globals) : gw p l js = some (fg p l js, 0) := by
 have hn := hg.funcs.2
 have hgl := hg.globals.2
 obtain ⟨b, b1, _, b2⟩ := yi p l (by omega)
 have hb := b2.2 hs
 have h7 := Bg p l js (by omega) js.length 0 (by omega)
 have h13 := yN p hg l hs js hj p.funcs.length 0 (by omega)
 rw [show ((0 : Nat) : Int) = 0 from rfl] at h7 h13
 unfold gw
 rw [bind_some hk, if_neg (show ¬ ((0 : Int) != 0) = true by decide), bind_some b1, hb, if_neg (by decide), if_neg (neF hj), bind_some h7]
 unfold fg
 cases cj (Cx p js) 0 js.length with
 | some y => rfl
 | none =>
  dsimp only [m7g]
  rw [bind_some h13]
  cases cj (fgO p l js) 0 p.funcs.length with
  | some y => rfl
  | none => rfl
theorem FC {p : ad} {l : List ab} {js : List ai} : (fg p l js).what = 0 ↔ (∀ i, i < js.length → pC (List.getD js i aB) p.locks = true) ∧ ∀ f i, f < p.funcs.length → i < (List.getD p.funcs f []).length → grd p l js f i = true := by
 unfold fg
 cases hq : cj (Cx p js) 0 js.length with
 | some y =>
  have h1 := lO hq
  constructor
  ·intro h; exact absurd h (by show ¬ (8 : Int) = 0; decide)
  ·rintro ⟨h2, _⟩
   have h3 := h1.2.2
   unfold Cx at h3
   rw [if_pos (h2 y.1 (by omega))] at h3
   cases h3
 | none =>
  have hr : ∀ i, i < js.length → pC (List.getD js i aB) p.locks = true := fun i hi => by
   have := ib hq i (Nat.zero_le _) (by omega)
   unfold Cx at this
   split at this
   ·assumption
   ·cases this
  cases hq2 : cj (fgO p l js) 0 p.funcs.length with
  | some y =>
   have h1 := lO hq2
   constructor
   ·intro h; exact absurd h (by show ¬ (8 : Int) = 0; decide)
   ·rintro ⟨_, h2⟩
    have h3 := h1.2.2
    unfold fgO at h3
    rw [jn fun k _ hk => by unfold Cw; rw [if_pos (h2 y.1 k (by omega) (by omega))]] at h3
    cases h3
  | none =>
   refine ⟨fun _ => ⟨hr, fun f i hf hi => ?_⟩, fun _ => rfl⟩
   have h1 := ib hq2 f (Nat.zero_le _) (by omega)
   unfold fgO at h1
   cases hq3 : cj (Cw p l js f) 0 (List.getD p.funcs f []).length with
   | some z => rw [hq3] at h1; cases h1
   | none =>
    have h3 := ib hq3 i (Nat.zero_le _) (by omega)
    unfold Cw at h3
    split at h3
    ·assumption
    ·cases h3
theorem yO (f g : Nat → B8) : ∀ l : List Nat, w0 (fun a b => ((BitVec.toNat a : Nat) : Int) == ((BitVec.toNat b : Nat) : Int)) f g l = true ↔ ∀ i ∈ l, f i = g i
 | [] => by simp [w0]
 | i :: l => by
  show ((((BitVec.toNat (f i) : Nat) : Int) == ((BitVec.toNat (g i) : Nat) : Int)) && w0 _ f g l) = true ↔ _
  rw [Bool.and_eq_true, yO f g l, beq_iff_eq, Int.ofNat_inj, BitVec.toNat_inj]
  simp
theorem ng (f g : Nat → B8) : w0 (fun a b => ((BitVec.toNat a : Nat) : Int) == ((BitVec.toNat b : Nat) : Int)) f g (List.range 32) = true ↔ ∀ i, i < 32 → f i = g i := by
 rw [yO]; simp
instance sameDec (f g : Nat → B8) : Decidable (∀ i, i < 32 → f i = g i) := decidable_of_iff _ (ng f g)
theorem Bh (t : List B8) : e9 (fun _ => 0#8) 0 32 (mb t) = mb t := by
 funext i
 unfold e9 mb
 by_cases hi : i < 32
 ·rw [if_pos (by omega), if_pos hi, Nat.sub_zero, if_pos hi]
 ·rw [if_neg (by omega), if_neg hi]
def orF (a b : aA) : aA := if a.what = 0 then b else a
def r54 (a : aA) : ck := if a.what = 0 then .x1 else .x0 a.func a.node a.what 0
def r53 (a : aA) : cm := if a.what = 0 then .x1 else .x0 a.func a.node a.what 0
def r52 (a : aA) : cn := if a.what = 0 then .x1 else .x0 a.func a.node a.what 0
def r51 (a : aA) : co := if a.what = 0 then .x1 else .x0 a.func a.node a.what 0
def r50 (a : aA) : cV := if a.what = 0 then .x1 else .x0 a.func a.node a.what 0
theorem FD (p : ad) (hg : bo p) (hk : aH p = some (0, 0, 0)) (c : aI) (hs : Shp p c.sections) (hj : (c.justs.length : Int) = p.globals) : fP p.globals p.locks p.slots p.funcs c.digest c.sections c.justs 0 0 0 = some (r54 (fg p c.sections c.justs)) := by
 unfold fP mU
 rw [bind_some (show (bind (gw (ad.mk p.globals p.locks p.slots p.funcs) (aI.mk c.digest c.sections c.justs).sections (aI.mk c.digest c.sections c.justs).justs) fun v1 => some (v1.1, v1.2)) = some (fg p c.sections c.justs, 0) by rw [show gw (ad.mk p.globals p.locks p.slots p.funcs) (aI.mk c.digest c.sections c.justs).sections (aI.mk c.digest c.sections c.justs).justs = some (fg p c.sections c.justs, 0) from Cy p hg hk c.sections hs c.justs hj]; rfl)]
 dsimp only
 rw [if_neg (by decide)]
 unfold r54
 by_cases h : (fg p c.sections c.justs).what = 0
 ·rw [if_neg (neF h), if_pos h]; rfl
 ·rw [if_pos (neT h), if_neg h]
theorem FE (p : ad) (hg : bo p) (hk : aH p = some (0, 0, 0)) (c : aI) (hs : Shp p c.sections) (hj : (c.justs.length : Int) = p.globals) (a : aA) (ha : dS p c.sections = some (a, 0)) : fQ p.globals p.locks p.slots p.funcs c.digest c.sections c.justs 0 0 0 = some (r53 (orF a (fg p c.sections c.justs))) := by
 unfold fQ
 rw [bind_some (show lR (ad.mk p.globals p.locks p.slots p.funcs) (aI.mk c.digest c.sections c.justs) = some (a, 0) by unfold lR; rw [show dS _ _ = some (a, 0) from ha]; rfl)]
 dsimp only
 rw [if_neg (by decide)]
 unfold r53 orF
 by_cases h : a.what = 0
 ·rw [if_neg (neF h), if_pos h, bind_some (FD p hg hk c hs hj)]
  unfold r54
  by_cases h2 : (fg p c.sections c.justs).what = 0
  ·rw [if_pos h2, if_pos h2]
  ·rw [if_neg h2, if_neg h2]
 ·rw [if_pos (neT h), if_neg h, if_neg h]
theorem FF (p : ad) (hg : bo p) (hk : aH p = some (0, 0, 0)) (c : aI) (hs : Shp p c.sections) (hj : (c.justs.length : Int) = p.globals) (b a : aA) (hb : dx p c.sections = some (b, 0)) (ha : dS p c.sections = some (a, 0)) : fR p.globals p.locks p.slots p.funcs c.digest c.sections c.justs 0 0 0 = some (r52 (orF b (orF a (fg p c.sections c.justs)))) := by
 unfold fR
 rw [bind_some (show mo (ad.mk p.globals p.locks p.slots p.funcs) (aI.mk c.digest c.sections c.justs) = some (b, 0) by unfold mo; rw [show dx _ _ = some (b, 0) from hb]; rfl)]
 dsimp only
 rw [if_neg (by decide)]
 unfold r52
 by_cases h : b.what = 0
 ·rw [if_neg (neF h), show orF b (orF a (fg p c.sections c.justs)) = orF a (fg p c.sections c.justs) from if_pos h, bind_some (FE p hg hk c hs hj a ha)]
  unfold r53
  by_cases h2 : (orF a (fg p c.sections c.justs)).what = 0
  ·rw [if_pos h2, if_pos h2]
  ·rw [if_neg h2, if_neg h2]
 ·rw [if_pos (neT h), show orF b (orF a (fg p c.sections c.justs)) = b from if_neg h, if_neg h]
theorem Cz (p : ad) (hg : bo p) (hk : aH p = some (0, 0, 0)) (c : aI) : iR p c = some (if (∀ i, i < 32 → mb (iL p) i = c.digest i) then ⟨0, 0, 0⟩ else ⟨-1, -1, 9⟩, 0) := by
 unfold iR
 rw [bind_some (nf hg hk)]
 dsimp only
 rw [if_neg (by decide), Bh]
 by_cases h : ∀ i, i < 32 → mb (iL p) i = c.digest i
 ·rw [(ng _ _).2 h, if_neg (by decide), if_pos h]
 ·rw [if_pos (by
   cases hv : w0 (fun a b => ((BitVec.toNat a : Nat) : Int) == ((BitVec.toNat b : Nat) : Int)) (mb (iL p)) c.digest (List.range 32) with
   | true => exact absurd ((ng _ _).1 hv) h
   | false => rfl), if_neg h]
  rfl
def i6 (p : ad) (c : aI) (b a : aA) : aA :=
 if ∀ i, i < 32 → mb (iL p) i = c.digest i then orF b (orF a (fg p c.sections c.justs)) else ⟨-1, -1, 9⟩
theorem FG (p : ad) (hg : bo p) (hk : aH p = some (0, 0, 0)) (c : aI) (hs : Shp p c.sections) (hj : (c.justs.length : Int) = p.globals) (b a : aA) (hb : dx p c.sections = some (b, 0)) (ha : dS p c.sections = some (a, 0)) : fS p.globals p.locks p.slots p.funcs c.digest c.sections c.justs 0 0 0 = some (r51 (i6 p c b a)) := by
 unfold fS
 rw [bind_some (show iR (ad.mk p.globals p.locks p.slots p.funcs) (aI.mk c.digest c.sections c.justs) = _ from Cz p hg hk c)]
 dsimp only
 rw [if_neg (by decide)]
 unfold i6
 by_cases h : ∀ i, i < 32 → mb (iL p) i = c.digest i
 ·rw [if_pos h, if_pos h, if_neg (by decide), bind_some (FF p hg hk c hs hj b a hb ha)]
  unfold r52 r51
  by_cases h2 : (orF b (orF a (fg p c.sections c.justs))).what = 0
  ·rw [if_pos h2, if_pos h2]
  ·rw [if_neg h2, if_neg h2]
 ·rw [if_neg h, if_neg h, if_pos (by decide)]; rfl
theorem CA (p : ad) (hg : bo p) (hk : aH p = some (0, 0, 0)) (c : aI) (hs : Shp p c.sections) (hj : (c.justs.length : Int) = p.globals) (b a : aA) (hb : dx p c.sections = some (b, 0)) (ha : dS p c.sections = some (a, 0)) : ku p c = some (if (i6 p c b a).what = 0 then ⟨0, 0, 0⟩ else i6 p c b a, 0) := by
 have hn := hg.funcs.2
 obtain ⟨q, q1, _, q2⟩ := yi p c.sections (by omega)
 have hq := q2.2 hs
 have hsh : kD (ad.mk p.globals p.locks p.slots p.funcs) (aI.mk c.digest c.sections c.justs) = some (⟨0, 0, 0⟩, 0) := by
  unfold kD
  rw [bind_some (show dK (ad.mk p.globals p.locks p.slots p.funcs) (aI.mk c.digest c.sections c.justs).sections = some q from q1), hq, if_neg (by decide), if_neg (neF hj)]
 have h5 : gE p.globals p.locks p.slots p.funcs c.digest c.sections c.justs 0 0 0 = some (r50 (i6 p c b a)) := by
  unfold gE
  rw [bind_some hsh]
  dsimp only
  rw [if_neg (by decide), if_neg (by decide), bind_some (FG p hg hk c hs hj b a hb ha)]
  unfold r51 r50
  by_cases h2 : (i6 p c b a).what = 0
  ·rw [if_pos h2, if_pos h2]
  ·rw [if_neg h2, if_neg h2]
 unfold ku
 rw [bind_some (nf hg hk)]
 dsimp only
 rw [if_neg (by decide), bind_some h5]
 unfold r50
 by_cases h2 : (i6 p c b a).what = 0
 ·rw [if_pos h2, if_pos h2]
 ·rw [if_neg h2, if_neg h2]
theorem zC (p : ad) (hg : bo p) (hk : aH p = some (0, 0, 0)) (c : aI) (hs : Shp p c.sections) (hj : (c.justs.length : Int) = p.globals) (b a : aA) (hb : dx p c.sections = some (b, 0)) (ha : dS p c.sections = some (a, 0)) : gf p c = some ((i6 p c b a).what == 0) := by
 unfold gf
 rw [bind_some (CA p hg hk c hs hj b a hb ha)]
 dsimp only
 rw [if_pos (by decide)]
 by_cases h2 : (i6 p c b a).what = 0
 ·rw [if_pos h2, h2]
 ·rw [if_neg h2]
theorem EA (p : ad) (c : aI) (b a : aA) : (i6 p c b a).what = 0 ↔ (∀ i, i < 32 → mb (iL p) i = c.digest i) ∧ b.what = 0 ∧ a.what = 0 ∧ (fg p c.sections c.justs).what = 0 := by
 unfold i6 orF
 by_cases h : ∀ i, i < 32 → mb (iL p) i = c.digest i
 ·rw [if_pos h]
  by_cases hb : b.what = 0
  ·rw [if_pos hb]
   by_cases ha : a.what = 0
   ·rw [if_pos ha]; exact ⟨fun x => ⟨h, hb, ha, x⟩, fun x => x.2.2.2⟩
   ·rw [if_neg ha]; exact ⟨fun x => absurd x ha, fun x => absurd x.2.2.1 ha⟩
  ·rw [if_neg hb]; exact ⟨fun x => absurd x hb, fun x => absurd x.2.1 hb⟩
 ·rw [if_neg h]
  exact ⟨fun x => absurd x (by decide), fun x => absurd x.1 h⟩
abbrev p0 : ad := ⟨0, 0, 0, [[⟨9, 0, 0, 0⟩]]⟩
abbrev l0 : List ab := [⟨0#32, 0#32, [0#32], 0#32, 0#32, [0#32]⟩]
theorem qE : aH p0 = some (0, 0, 0) := xL 40 _ _ (by kernel_rfl)
theorem ov : bo p0 := by
 obtain ⟨r, h1, h2, _⟩ := yf p0
 rw [qE] at h1
 cases h1
 exact (h2 rfl).2
def FH (q : Nat → Bool) : Nat → Nat → Bool
 | _, 0 => false
 | i, m + 1 => q i || FH q (i + 1) m
theorem qF {q : Nat → Bool} : ∀ {m i : Nat}, FH q i m = true ↔ ∃ k, i ≤ k ∧ k < i + m ∧ q k = true
 | 0, i => ⟨fun h => (by cases h), fun ⟨k, h1, h2, _⟩ => by omega⟩
 | m + 1, i => by
  unfold FH
  rw [Bool.or_eq_true, qF]
  constructor
  ·rintro (h | ⟨k, h1, h2, h3⟩)
   ·exact ⟨i, Nat.le_refl _, by omega, h⟩
   ·exact ⟨k, by omega, by omega, h3⟩
  ·rintro ⟨k, h1, h2, h3⟩
   rcases Nat.eq_or_lt_of_le h1 with rfl | h4
   ·exact .inl h3
   ·exact .inr ⟨k, h4, by omega, h3⟩
def GL (p : ad) (l : List ab) (g : Int) (j : ai) (f i : Nat) : Bool := (acc (nde p f i) && ((nde p f i).arg == g)) && !pD j ((nde p f i).kind == 2) (hld l f i) (liv l f i)
def okJ (p : ad) (l : List ab) (g : Int) (j : ai) : Bool := !FH (fun f => FH (GL p l g j f) 0 (List.getD p.funcs f []).length) 0 p.funcs.length
theorem GM {p : ad} {l : List ab} {g : Int} {j : ai} : okJ p l g j = true ↔ ∀ f i, f < p.funcs.length → i < (List.getD p.funcs f []).length → GL p l g j f i = false := by
 unfold okJ
 rw [Bool.not_eq_true', ← Bool.not_eq_true, qF]
 constructor
 ·intro h f i hf hi
  cases hb : GL p l g j f i with
  | false => rfl
  | true => exact absurd ⟨f, Nat.zero_le _, (by omega : f < 0 + p.funcs.length), qF.2 ⟨i, Nat.zero_le _, (by omega : i < 0 + _), hb⟩⟩ h
 ·rintro h ⟨f, _, hf, h2⟩
  obtain ⟨i, _, hi, h3⟩ := qF.1 h2
  rw [h f i (by omega) (by omega)] at h3
  cases h3
def tr (k : Nat) : ai := if k = 0 then ⟨0, 0⟩ else if k = 1 then ⟨1, 0⟩ else ⟨2, ((k - 2 : Nat) : Int)⟩
def Bi (p : ad) (l : List ab) (g : Int) : Option Nat := lN (fun k => okJ p l g (tr k)) 0 (2 + p.locks.toNat)
def EB (p : ad) (l : List ab) : Nat → Nat → List ai
 | _, 0 => []
 | g, m + 1 => tr ((Bi p l (g : Int)).getD 0) :: EB p l (g + 1) m
theorem vG (p : ad) (l : List ab) : ∀ (m g j : Nat), j < m → List.getD (EB p l g m) j aB = tr ((Bi p l ((g + j : Nat) : Int)).getD 0)
 | 0, g, j, h => by omega
 | m + 1, g, 0, h => rfl
 | m + 1, g, j + 1, h => by
  have := vG p l m (g + 1) j (by omega)
  rw [show g + 1 + j = g + (j + 1) by omega] at this
  exact this
theorem DK (p : ad) (l : List ab) : ∀ (m g : Nat), (EB p l g m).length = m
 | 0, _ => rfl
 | m + 1, g => by simp [EB, DK p l m (g + 1)]
theorem CB {p : ad} (hg : bo p) (l : List ab) (h : ∀ k, k < p.globals.toNat → Bi p l (k : Int) ≠ none) : (fg p l (EB p l 0 p.globals.toNat)).what = 0 := by
 have hlk := hg.locks
 have hgl := hg.globals
 have best : ∀ k, k < p.globals.toNat → ∃ t, Bi p l (k : Int) = some t ∧ t < 2 + p.locks.toNat ∧ okJ p l (k : Int) (tr t) = true := fun k hk => by
  cases hb : Bi p l (k : Int) with
  | none => exact absurd hb (h k hk)
  | some t =>
   have := yc (show lN _ 0 _ = some t from hb)
   exact ⟨t, rfl, by omega, this.2.2⟩
 refine FC.2 ⟨fun i hi => ?_, fun f i hf hi => ?_⟩
 ·rw [DK] at hi
  obtain ⟨t, t1, t2, t3⟩ := best i hi
  rw [vG p l _ 0 i hi, Nat.zero_add, t1]
  show pC (tr t) p.locks = true
  unfold tr
  split
  ·rfl
  ·split
   ·rfl
   ·show (if (2 : Int) = 2 then _ else _) = true
    rw [if_pos rfl, Bool.and_eq_true, decide_eq_true_iff, decide_eq_true_iff]
    constructor
    ·show (0 : Int) ≤ ((t - 2 : Nat) : Int); omega
    ·show ((t - 2 : Nat) : Int) < p.locks; omega
 ·unfold grd
  cases ha : acc (nde p f i) with
  | false => rfl
  | true =>
   have hgb := (hg.node f i hf hi).glob (by simpa [acc] using ha)
   have hgb : 0 ≤ (nde p f i).arg ∧ (nde p f i).arg < p.globals := hgb
   obtain ⟨t, t1, t2, t3⟩ := best (nde p f i).arg.toNat (by omega)
   have h2 := GM.1 t3 f i hf hi
   have ej : jus (EB p l 0 p.globals.toNat) (nde p f i).arg = tr t := by
    show List.getD _ (nde p f i).arg.toNat aB = _
    rw [vG p l _ 0 _ (by omega), Nat.zero_add, t1]; rfl
   rw [ej]
   unfold GL at h2
   rw [ha, show ((nde p f i).arg == ((nde p f i).arg.toNat : Int)) = true by rw [beq_iff_eq]; omega] at h2
   simpa using h2
structure HK (p : ad) (u : List W32) (fm bg : W32) (l : List ab) : Prop where
 shp : Shp p l
 fine : E0 p l u fm
 fineL : AA p l bg
 best : ∀ c, Shp p c → E0 p c u fm → ∀ f i, f < p.funcs.length → i < (List.getD p.funcs f []).length → sub (xy p &&& hld c f i) (hld l f i)
 least : ∀ c, Shp p c → AA p c bg → ∀ f i, f < p.funcs.length → i < (List.getD p.funcs f []).length → sub (liv l f i) (liv c f i)
abbrev GN (a b : ab) : ab := ⟨a.entry, a.exit, a.held, b.liveEntry, b.liveExit, b.live⟩
theorem DL {p : ad} (hg : bo p) {u : List W32} {fm bg : W32} {v w : List W32} {t m l : List ab}
  (t2 : Gfp (ff p u fm 0 p.funcs.length) (List.replicate (base p.funcs p.funcs.length) (xy p)) v) (t3 : v.length = base p.funcs p.funcs.length) (t4 : t.length = p.funcs.length) (t5 : ∀ g, g < p.funcs.length → A3 p v g (sec t g))
  (m2 : Lfp (eC p bg 0 p.funcs.length) (List.replicate (base p.funcs p.funcs.length) 0#32) w) (m3 : w.length = base p.funcs p.funcs.length) (m4 : m.length = p.funcs.length) (m5 : ∀ g, g < p.funcs.length → vE p w g (sec m g))
  (hl : l.length = p.funcs.length) (hm : ∀ f, f < p.funcs.length → sec l f = GN (sec t f) (sec m f)) : HK p u fm bg l := by
 obtain ⟨hL, hS⟩ := Ct t3 t4 t5
 obtain ⟨hL2, hS2⟩ := A7 m3 m4 m5
 have hk : jg (ff p u fm 0 p.funcs.length) (base p.funcs p.funcs.length) v := by
  have := t2.keeps
  rw [List.length_replicate] at this
  exact this
 have hk2 : kR (eC p bg 0 p.funcs.length) (base p.funcs p.funcs.length) w := by
  have := m2.keeps
  rw [List.length_replicate] at this
  exact this
 have eh : ∀ f i, f < p.funcs.length → hld l f i = hld t f i := fun f i hf => by
  show List.getD (sec l f).held i 0#32 = _
  rw [hm f hf]
 have el : ∀ f i, f < p.funcs.length → liv l f i = liv m f i := fun f i hf => by
  show List.getD (sec l f).live i 0#32 = _
  rw [hm f hf]
 have lay : Cq p l v := ⟨t3, fun f hf => by rw [hL.ent f hf, hm f hf], fun f hf => by rw [hL.exi f hf, hm f hf], fun f i hf hi => by rw [hL.nod f i hf hi, eh f i hf]⟩
 have layL : vB p l w := ⟨m3, fun f hf => by rw [hL2.ent f hf, hm f hf], fun f hf => by rw [hL2.exi f hf, hm f hf], fun f i hf hi => by rw [hL2.nod f i hf hi, el f i hf]⟩
 refine ⟨⟨hl, fun f hf => by rw [hm f hf]; exact ⟨(hS.2 f hf).1, (hS2.2 f hf).2⟩⟩, (yz hg lay).1 hk, (vC hg layL).1 hk2, fun c hc hf f i hfl hi => ?_, fun c hc hf f i hfl hi => ?_⟩
 ·obtain ⟨z, z1⟩ := GG p c hc
  have := GH t2 z1.len ((yz hg z1).2 hf) ((base p.funcs f + 2 + i : Nat) : Int)
  rw [z1.nod f i hfl hi, lay.nod f i hfl hi] at this
  exact this
 ·obtain ⟨z, z1⟩ := Ft p c hc
  have := Fu m2 ((vC hg z1).2 hf) ((base p.funcs f + 2 + i : Nat) : Int)
  rw [z1.nod f i hfl hi, layL.nod f i hfl hi] at this
  exact this
theorem vH (l : List ab) (i : Nat) (s : ab) (hi : i < l.length) (j : Nat) : sec (l.set i s) j = if j = i then s else sec l j := by
 by_cases e : j = i
 ·subst e; rw [if_pos rfl]; simp [sec, List.getD, hi]
 ·have : i ≠ j := fun h => e h.symm
  rw [if_neg e]
  simp [sec, List.getD, List.getElem?_set, this]
abbrev emA (l m : List ab) (i : Nat) : List ab := List.set l i (ab.mk ((List.getD l i aa).entry) ((List.getD l i aa).exit) ((List.getD l i aa).held) ((List.getD m i aa).liveEntry) ((List.getD l i aa).liveExit) ((List.getD l i aa).live))
abbrev emB (l m : List ab) (i : Nat) : List ab := List.set l i (ab.mk ((List.getD l i aa).entry) ((List.getD l i aa).exit) ((List.getD l i aa).held) ((List.getD l i aa).liveEntry) ((List.getD m i aa).liveExit) ((List.getD l i aa).live))
abbrev emC (l m : List ab) (i : Nat) : List ab := List.set l i (ab.mk ((List.getD l i aa).entry) ((List.getD l i aa).exit) ((List.getD l i aa).held) ((List.getD l i aa).liveEntry) ((List.getD l i aa).liveExit) ((List.getD m i aa).live))
theorem FI (l m : List ab) (i : Nat) : (emC (emB (emA l m i) m i) m i).length = l.length := by simp [emA, emB, emC]
theorem FJ (l m : List ab) (i : Nat) (hi : i < l.length) (j : Nat) : sec (emC (emB (emA l m i) m i) m i) j = if j = i then GN (sec l i) (sec m i) else sec l j := by
 have h1 : i < (emA l m i).length := by simp [emA, hi]
 have h2 : i < (emB (emA l m i) m i).length := by simp [emA, emB, hi]
 have a : ∀ j, sec (emA l m i) j = if j = i then ⟨(sec l i).entry, (sec l i).exit, (sec l i).held, (sec m i).liveEntry, (sec l i).liveExit, (sec l i).live⟩ else sec l j := fun j => vH _ _ _ hi j
 have b : ∀ j, sec (emB (emA l m i) m i) j = if j = i then ⟨(sec l i).entry, (sec l i).exit, (sec l i).held, (sec m i).liveEntry, (sec m i).liveExit, (sec l i).live⟩ else sec l j := fun j => by
  have := vH (emA l m i) i ⟨(sec (emA l m i) i).entry, (sec (emA l m i) i).exit, (sec (emA l m i) i).held, (sec (emA l m i) i).liveEntry, (sec m i).liveExit, (sec (emA l m i) i).live⟩ h1 j
  refine this.trans ?_
  rw [a i, if_pos rfl]
  split
  ·rfl
  ·rename_i hj; rw [a j, if_neg hj]
 have := vH (emB (emA l m i) m i) i ⟨(sec (emB (emA l m i) m i) i).entry, (sec (emB (emA l m i) m i) i).exit, (sec (emB (emA l m i) m i) i).held, (sec (emB (emA l m i) m i) i).liveEntry, (sec (emB (emA l m i) m i) i).liveExit, (sec m i).live⟩ h2 j
 refine this.trans ?_
 rw [b i, if_pos rfl]
 split
 ·rfl
 ·rename_i hj; rw [b j, if_neg hj]
theorem DM (m : List ab) (n : Nat) (hn : n ≤ 65536) (hm : m.length = n) : ∀ (k f : Nat) (l : List ab), f + k = n → l.length = n → ∃ l', cp l m (n : Int) (f : Int) = some l' ∧ l'.length = n ∧ ∀ g, g < n → sec l' g = if f ≤ g then GN (sec l g) (sec m g) else sec l g
 | 0, f, l, h, hl => by
  rw [cp, iN (by omega)]
  exact ⟨l, rfl, hl, fun g hg => by rw [if_neg (by omega)]⟩
 | k + 1, f, l, h, hl => by
  obtain ⟨l', i1, i2, i3⟩ := DM m n hn hm k (f + 1) (emC (emB (emA l m f) m f) m f) (by omega) (by rw [FI, hl])
  refine ⟨l', ?_, i2, fun g hg => ?_⟩
  ·rw [cp, iP (by omega), iP (by omega), iP (by omega), iP (by omega), inc f (by omega), Int.toNat_natCast f]
   exact i1
  ·rw [i3 g hg, FJ l m f (by omega)]
   by_cases h1 : f + 1 ≤ g
   ·rw [if_pos h1, if_neg (by omega), if_pos (by omega)]
   ·rw [if_neg h1]
    by_cases h2 : g = f
    ·subst h2; rw [if_pos rfl, if_pos (Nat.le_refl _)]
    ·rw [if_neg h2, if_neg (by omega)]
theorem Bj (x0 : FS) (m : List ab) (n : Nat) (hn : n ≤ 65536) (hm : m.length = n) : ∀ (k f : Nat) (l : List ab), f + k = n → l.length = n → ∃ l', cX x0 l m (n : Int) (f : Int) = some l' ∧ l'.length = n ∧ ∀ g, g < n → sec l' g = if f ≤ g then GN (sec l g) (sec m g) else sec l g
 | 0, f, l, h, hl => by
  rw [cX, iN (by omega)]
  exact ⟨l, rfl, hl, fun g hg => by rw [if_neg (by omega)]⟩
 | k + 1, f, l, h, hl => by
  obtain ⟨l', i1, i2, i3⟩ := Bj x0 m n hn hm k (f + 1) (emC (emB (emA l m f) m f) m f) (by omega) (by rw [FI, hl])
  refine ⟨l', ?_, i2, fun g hg => ?_⟩
  ·rw [cX, iP (by omega), iP (by omega), iP (by omega), iP (by omega), inc f (by omega), Int.toNat_natCast f]
   exact i1
  ·rw [i3 g hg, FJ l m f (by omega)]
   by_cases h1 : f + 1 ≤ g
   ·rw [if_pos h1, if_neg (by omega), if_pos (by omega)]
   ·rw [if_neg h1]
    by_cases h2 : g = f
    ·subst h2; rw [if_pos rfl, if_pos (Nat.le_refl _)]
    ·rw [if_neg h2, if_neg (by omega)]
theorem GO (p : ad) (hg : bo p) (hk : aH p = some (0, 0, 0)) : ∃ l u fm bg, eg p = some (0, l) ∧ yy p u fm ∧ dJ p = some (bg, 0) ∧ HK p u fm bg l := by
 have hn := hg.funcs
 obtain ⟨u, fm, h⟩ := He p hg hk
 obtain ⟨bg, b1, _⟩ := yh p hg hk
 obtain ⟨v, t, t1, t2, t3, t4, t5⟩ := DB p hg h
 obtain ⟨w, m, m1, m2, m3, m4, m5⟩ := A8 p hg b1
 obtain ⟨l, l1, l2, l3⟩ := DM m p.funcs.length (by omega) m4 p.funcs.length 0 t (by omega) t4
 rw [show ((0 : Nat) : Int) = 0 from rfl] at l1
 refine ⟨l, u, fm, bg, ?_, h, b1, DL hg t2 t3 t4 t5 m2 m3 m4 m5 l2 fun f hf => by rw [l3 f hf, if_pos (Nat.zero_le _)]⟩
 unfold eg
 rw [bind_some t1, if_neg (show ¬ ((0 : Int) != 0) = true by decide), bind_some m1, if_neg (show ¬ ((0 : Int) != 0) = true by decide)]
 dsimp only
 rw [t4, bind_some l1]
theorem FK (p : ad) (hg : bo p) (hk : aH p = some (0, 0, 0)) : ∃ l u fm bg, gg p.funcs p.globals p.locks p.slots = some (0, l) ∧ yy p u fm ∧ dJ p = some (bg, 0) ∧ HK p u fm bg l := by
 have hn := hg.funcs
 obtain ⟨u, fm, h⟩ := He p hg hk
 obtain ⟨bg, b1, _⟩ := yh p hg hk
 obtain ⟨v, t, t1, t2, t3, t4, t5⟩ := DB p hg h
 obtain ⟨w, m, m1, m2, m3, m4, m5⟩ := A8 p hg b1
 obtain ⟨l, l1, l2, l3⟩ := Bj p.funcs m p.funcs.length (by omega) m4 p.funcs.length 0 t (by omega) t4
 rw [show ((0 : Nat) : Int) = 0 from rfl] at l1
 refine ⟨l, u, fm, bg, ?_, h, b1, DL hg t2 t3 t4 t5 m2 m3 m4 m5 l2 fun f hf => by rw [l3 f hf, if_pos (Nat.zero_le _)]⟩
 unfold gg
 rw [bind_some (show gx (ad.mk p.globals p.locks p.slots p.funcs) = _ from t1), if_neg (show ¬ ((0 : Int) != 0) = true by decide), bind_some (show jv (ad.mk p.globals p.locks p.slots p.funcs) = _ from m1), if_neg (show ¬ ((0 : Int) != 0) = true by decide)]
 dsimp only
 rw [t4, bind_some l1]
theorem FL (p : ad) {a b e : Int} (hk : aH p = some (a, b, e)) (he : e ≠ 0) : eg p = some (e, []) := by
 unfold eg
 rw [bind_some (Fq p hk he), if_pos (neT he)]
theorem Bk : dT = some true := by
 obtain ⟨l, u, fm, bg, s1, h, b1, ht⟩ := FK p0 ov qE
 have hl : l.length = 1 := ht.shp.1
 have hd := nf ov qE
 have hm := (yB p0 ov h).1 l ht.shp
 have hy := (A9 p0 ov b1).1 l ht.shp
 rw [Df ht.shp.1 ht.fine] at hm
 rw [AB ht.shp.1 ht.fineL] at hy
 have ha := zC p0 ov qE ⟨mb (iL p0), l, []⟩ ht.shp rfl _ _ hm hy
 have hc : (i6 p0 ⟨mb (iL p0), l, []⟩ ⟨0, 0, 0⟩ ⟨0, 0, 0⟩).what = 0 := (EA _ _ _ _).2 ⟨fun i _ => rfl, rfl, rfl, CB ov l fun k hk => absurd hk (by show ¬ k < 0; omega)⟩
 rw [hc] at ha
 have hmk : oE ([[ac.mk 9 0 0 0]]) 0 0 0 = some (mb (iL p0), true, 0, l, []) := by
  unfold oE
  rw [bind_some (show fk _ = _ from hd), if_neg (show ¬ ((0 : Int) != 0) = true by decide), bind_some (show gg _ _ _ _ = _ from s1), if_neg (show ¬ ((0 : Int) != 0) = true by decide)]
  dsimp only
  rw [gK, if_neg (by decide)]
  rw [bind_some rfl]
  dsimp only
  rw [Bh]
 unfold dT
 rw [bind_some hmk]
 dsimp only
 rw [if_pos rfl, if_pos (by decide), if_pos (by rw [hl]; decide), bind_some (show gf _ _ = _ from ha)]
 rfl
theorem EC (p : ad) : fD p = some true := by
 unfold fD
 rw [bind_some Bk, if_neg (by decide)]
 obtain ⟨sm, s1, _⟩ := EU p
 rw [bind_some s1]
 cases sm with
 | false => rw [if_pos (by decide), bind_some Bk]
 | true =>
  rw [if_neg (by decide)]
  obtain ⟨⟨ra, rb, re⟩, r1, r2, _⟩ := yf p
  by_cases he : re = 0
  ·obtain ⟨r5, hg⟩ := r2 he
   rw [r5] at r1
   obtain ⟨l, u, fm, bg, e1, h, b1, ht⟩ := GO p hg r1
   have hm := (yB p hg h).1 l ht.shp
   have hy := (A9 p hg b1).1 l ht.shp
   rw [Df ht.shp.1 ht.fine] at hm
   rw [AB ht.shp.1 ht.fineL] at hy
   rw [bind_some e1]
   dsimp only
   rw [if_neg (show ¬ ((0 : Int) != 0) = true by decide), bind_some hm, bind_some hy]
   rfl
  ·rw [bind_some (FL p r1 he)]
   dsimp only
   rw [if_pos (neT he)]
   rfl
end Go.Bm.GoYtipjbmnfnmlkfaaGreatDoor
