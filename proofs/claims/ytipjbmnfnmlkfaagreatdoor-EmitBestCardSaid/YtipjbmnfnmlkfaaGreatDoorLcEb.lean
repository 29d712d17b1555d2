import Derived.Test.YtipjbmnfnmlkfaaGreatDoorLcEa
namespace Go.Bm.GoYtipjbmnfnmlkfaaGreatDoor
set_option autoImplicit false
set_option linter.unusedVariables false
set_option linter.unusedSimpArgs false
set_option maxRecDepth 100000
theorem BO (n : Nat) (hn : n ≤ 65536) (x1 : List (List Int)) (b : List af) (hb : b.length ≤ 65536) (v0 : List W32) : ∀ (m i : Nat) (v : List W32) (us : List (List Int)) (l : List Int) (tb : List Bool) (rs : List af), i + m = b.length → nv n b v0 v us l tb rs i →
  ∃ v' us' l' tb' rs', aV v x1 us l tb rs b b (b.length : Int) (i : Int) = some (v', us', l', tb', rs') ∧ nv n b v0 v' us' l' tb' rs' b.length
 | 0, i, v, us, l, tb, rs, h, hf => by
  rw [aV, iN (by omega)]
  have : i = b.length := by omega
  subst this
  exact ⟨v, us, l, tb, rs, rfl, hf⟩
 | m + 1, i, v, us, l, tb, rs, h, hf => by
  have hi : ax (i : Int) 1 = ((i + 1 : Nat) : Int) := by rw [dS (by omega) (by omega)]; omega
  have hlt : i < b.length := by omega
  rw [aV, iP (by omega), iP (by omega), iP (by omega), hi]
  have e : List.getD b (Int.toNat (i : Int)) ag = b[i] := by simp [List.getD, hlt]
  rw [e]
  by_cases h0 : b[i].to_ < 0
  ·rw [if_pos (decide_eq_true h0)]
   exact BO n hn x1 b hb v0 m (i + 1) v us l tb rs (by omega) (hf.next hlt (by omega))
  ·rw [if_neg (by simpa using h0)]
   by_cases h1 : b[i].to_ ≥ (v.length : Int)
   ·rw [if_pos (decide_eq_true h1)]
    exact BO n hn x1 b hb v0 m (i + 1) v us l tb rs (by omega) (hf.next hlt (by rw [hf.vl] at h1; omega))
   ·rw [if_neg (by simpa using h1)]
    have h2 := Ia v x1 l tb rs [b[i].from_, b[i].also] b b[i].to_ b[i].from_ b[i].also b[i].keep b[i].if_ b[i].then_ b (b.length : Int) (i : Int) (by simp) 2 0 us rfl (by rw [hf.ul, hf.vl]) (fun j => by have := hf.un j; omega)
    rw [show ((0 : Nat) : Int) = 0 from rfl] at h2
    rw [h2]
    simp only [bind, Option.bind_some, List.drop_zero, List.foldl_cons, List.foldl_nil]
    rw [if_pos (Nat.ble_eq_true_of_le (by have := hf.rl; simp only [List.length_singleton, aK]; omega))]
    have g0 : 0 ≤ b[i].to_ := by omega
    have g1 : b[i].to_ < (v.length : Int) := by omega
    have g2 : b[i].to_ < (n : Int) := by rw [← hf.vl]; exact g1
    rw [Be v _ b b[i] g0 g1, hf.vl]
    simp only [Option.bind_some]
    by_cases hc : (gi v b[i].to_ &&& bi b[i] v) = gi v b[i].to_
    ·rw [if_neg (by simpa using hc)]
     exact BO n hn x1 b hb v0 m (i + 1) _ _ l tb _ (by omega) (hf.rule hlt g0 g2 hf.wk)
    ·rw [if_pos (by simpa using hc)]
     obtain ⟨l1, tb1, a1, a2, a3, a4⟩ := sC hn hf.wk g0 g2
     rw [a1]
     simp only [Option.bind_some]
     exact BO n hn x1 b hb v0 m (i + 1) _ _ l1 tb1 _ (by omega) (hf.rule hlt g0 g2 a2)
theorem rS (n : Nat) (i0 : Nat) : (List.replicate n ([] : List Int)).getD i0 [] = [] := by
 simp only [List.getD, List.getElem?_replicate]
 split <;> rfl
theorem nv.start (v0 : List W32) (b : List af) : nv v0.length b v0 v0 (List.replicate v0.length []) [] (List.replicate v0.length false) [] 0 where
 vl := rfl
 ul := by simp
 wk := ⟨by simp, by simp, by simp, fun i hi => by simp [List.getD, List.getElem?_replicate, hi]⟩
 isr := fun r => by simp
 rl := Nat.le_refl _
 isu := fun i0 k hk => by rw [rS] at hk; cases hk
 un := fun i0 => by rw [rS]; simp
 use := fun q r j hq => by simp at hq
 down := fun j => sub.refl _
 best := fun w _ h => h
 hold := fun r hr => by cases hr
theorem Gp (v0 : List W32) (x1 : List (List Int)) (b : List af) (hv : v0.length ≤ 65536) (hb : b.length ≤ 65536) : ∃ v us, fM v0 x1 b = some (v, us) ∧ Gfp b v0 v := by
 unfold fM
 rw [iP (by omega), if_pos (decide_eq_true (by simp only [aK]; omega)), if_pos (decide_eq_true (by simp only [aK]; omega))]
 rw [show Int.toNat ((v0.length : Nat) : Int) = v0.length by omega]
 obtain ⟨v, us, l, tb, rs, h1, hf⟩ := BO v0.length hv x1 b hb v0 b.length 0 v0 _ _ _ _ (by omega) (nv.start v0 b)
 rw [show ((0 : Nat) : Int) = 0 from rfl] at h1
 rw [h1]
 simp only [bind, Option.bind_some]
 obtain ⟨l', tb', h2, h3, h4⟩ := F3 v0.length hv v x1 us rs b v0.length 0 l tb (by omega) hf.wk
 rw [show ((0 : Nat) : Int) = 0 from rfl] at h2
 rw [hf.vl, h2]
 simp only [Option.bind_some]
 obtain ⟨v', q1, q2, q3, q4, q5⟩ := F2 v0.length hv x1 us rs b (fun r hr => ((hf.isr r).1 hr).2) hf.ul hf.isu (fun i0 => by have := hf.un i0; omega) hf.use _ v l' tb' (Nat.le_refl _) hf.vl h3 (fun r hr => by
  rcases hf.hold r hr with (h | h) | h
  ·exact .inr (.inl ((h4 _).2 (.inr (by omega))))
  ·exact .inr (.inr ((h4 _).2 (.inr (by omega))))
  ·exact .inl h)
 rw [q1]
 refine ⟨v', us, rfl, q2, fun j => (q3 j).trans (hf.down j), fun w hk hwv => q4 w (fun r hr => hk r (List.mem_of_mem_take ((hf.isr r).1 hr).1)) (hf.best w hk hwv), fun r hr a0 a1 => ?_⟩
 exact q5 r ((hf.isr r).2 ⟨by rw [List.take_length]; exact hr, a0, a1⟩)
theorem BP (n : Int) (top : W32) (b : List af) (hb : b.length ≤ 65536) : ∃ v, i9 n top b = some v ∧ Gfp b (if 0 ≤ n ∧ n ≤ 65536 then List.replicate n.toNat top else []) v := by
 unfold i9
 rw [Bg]
 simp only [bind, Option.bind_some]
 obtain ⟨v, us, h1, h2⟩ := Gp (if 0 ≤ n ∧ n ≤ 65536 then List.replicate n.toNat top else []) [] b (by split <;> simp; omega) hb
 rw [h1]
 exact ⟨v, rfl, h2⟩
def eo (a b : W32) : Prop := sub b a
theorem eo.refl (a : W32) : eo a a := sub.refl a
theorem eo.trans {a b c : W32} (h : eo a b) (k : eo b c) : eo a c := sub.trans k h
theorem Da (a b : W32) : eo (a ||| b) a := qQ a b
theorem mJ (a b : W32) : eo (a ||| b) b := vR a b
theorem Gq {a b c : W32} (h : eo c a) (k : eo c b) : eo c (a ||| b) := CU h k
theorem Db (r : af) {v w : List W32} (h : ∀ j : Int, eo (gi v j) (gi w j)) : eo (bi r v) (bi r w) := yZ r h
def Gr (a : W32) : Nat := ((List.range 32).filter fun i => !a.getLsbD i).length
theorem HJ {a b : W32} (h : eo a b) (hn : a ≠ b) : Gr a < Gr b := by
 have : ∃ i, i < 32 ∧ b.getLsbD i = false ∧ a.getLsbD i = true := by
  apply Classical.byContradiction
  intro hno
  apply hn
  apply BitVec.eq_of_getLsbD_eq
  intro i hi
  cases hb : b.getLsbD i with
  | true => rw [h i hb]
  | false =>
   cases ha : a.getLsbD i with
   | false => rfl
   | true => exact absurd ⟨i, hi, hb, ha⟩ hno
 obtain ⟨i, hi, h1, h2⟩ := this
 refine y5 _ (fun k hk => ?_) (List.mem_range.2 hi) (by simp [h2]) (by simp [h1])
 cases hb : b.getLsbD k with
 | false => rfl
 | true => have := h k hb; simp [this] at hk
theorem zo (v : List W32) (u : List (List Int)) (b0 : List af) (r : af) (h0 : 0 ≤ r.to_) (h1 : r.to_ < v.length) :
  dQ v u b0 r = some ((gi v r.to_ ||| bi r v) != gi v r.to_, v.set r.to_.toNat (gi v r.to_ ||| bi r v)) := by
 unfold dQ tN
 rw [if_pos (decide_eq_true h0), if_pos (decide_eq_true h1), Bc]
 simp only [bind, Option.bind_some]
 have e : List.getD v r.to_.toNat 0#32 = gi v r.to_ := by unfold gi; rw [if_pos ⟨h0, h1⟩]
 rw [e]
 have e2 : ∀ x : W32, List.getD (List.set v r.to_.toNat x) r.to_.toNat 0#32 = x := fun x => by
  have : r.to_.toNat < v.length := by omega
  simp [List.getD, this]
 rw [e2]
theorem Gs (v : List W32) (x1 : List (List Int)) (x3 : List Int) (x4 : List Bool) (rs : List af) (js : List Int) (x7 : List af) (x8 x9 x10 : Int) (x11 x12 x13 : W32) (x14 : List af) (x15 x16 : Int) (hjs : js.length ≤ 2) :
  ∀ (n i : Nat) (u : List (List Int)), i + n = js.length → u.length = v.length → (∀ j : Nat, (u.getD j []).length + n ≤ 1000000) →
  aT v x1 u x3 x4 rs js x7 x8 x9 x10 x11 x12 x13 x14 x15 x16 (js.length : Int) (i : Int) = some ((js.drop i).foldl (fun u j => lM v.length u j (rs.length : Int)) u)
 | 0, i, u, h, hu, hb => by
  rw [aT, iN (by omega), List.drop_eq_nil_of_le (by omega)]
  rfl
 | n + 1, i, u, h, hu, hb => by
  have hi : ax (i : Int) 1 = ((i + 1 : Nat) : Int) := by rw [dS (by omega) (by omega)]; omega
  have hlt : i < js.length := by omega
  rw [aT, iP (by omega), iP (by omega), iP (by omega), hi]
  have e : List.getD js (Int.toNat (i : Int)) 0 = js[i] := by simp [List.getD, hlt]
  rw [e, List.drop_eq_getElem_cons hlt, List.foldl_cons]
  generalize js[i] = j
  have ih := fun u' hu' hb' => Gs v x1 x3 x4 rs js x7 x8 x9 x10 x11 x12 x13 x14 x15 x16 hjs n (i + 1) u' (by omega) hu' hb'
  by_cases h0 : j ≥ 0
  ·rw [if_pos (decide_eq_true h0)]
   by_cases h1 : j < (v.length : Int)
   ·rw [if_pos (decide_eq_true h1), if_pos (decide_eq_true h0), if_pos (decide_eq_true (by rw [hu]; exact h1))]
    rw [if_pos (Nat.ble_eq_true_of_le (by have := hb j.toNat; simp only [List.length_singleton, aK]; omega))]
    have e1 : lM v.length u j (rs.length : Int) = u.set j.toNat (u.getD j.toNat [] ++ [(rs.length : Int)]) := if_pos ⟨h0, h1⟩
    rw [e1]
    refine ih _ (by simp [hu]) fun k => ?_
    have hk := hb k
    by_cases hkj : j.toNat = k
    ·subst hkj
     have : j.toNat < u.length := by omega
     simp [List.getD, this] at hk ⊢
     omega
    ·have : (u.set j.toNat (u.getD j.toNat [] ++ [(rs.length : Int)])).getD k [] = u.getD k [] := by simp [List.getD, List.getElem?_set, hkj]
     rw [this]; omega
   ·rw [if_neg (by simpa using h1)]
    have e1 : lM v.length u j (rs.length : Int) = u := if_neg (by omega)
    rw [e1]
    exact ih u hu fun k => by have := hb k; omega
  ·rw [if_neg (by simpa using h0)]
   have e1 : lM v.length u j (rs.length : Int) = u := if_neg (by omega)
   rw [e1]
   exact ih u hu fun k => by have := hb k; omega
def rT (v : List W32) : Nat := (v.map Gr).sum
theorem zq : ∀ (v : List W32) (i : Nat) (x : W32) (h : i < v.length), rT (v.set i x) + Gr v[i] = rT v + Gr x
 | a :: v, 0, x, h => by simp [rT]; omega
 | a :: v, i + 1, x, h => by
  have := zq v i x (by simpa using h)
  simp [rT] at this ⊢
  omega
def lB (l : List af) (n : Nat) (w : List W32) : Prop := ∀ r ∈ l, 0 ≤ r.to_ → r.to_ < (n : Int) → eo (gi w r.to_) (bi r w)
theorem BQ {l : List af} {v : List W32} {r : af} {x : W32} (hr : r ∈ l) (h0 : 0 ≤ r.to_) (h1 : r.to_ < v.length) (hx : x = bi r v ||| gi v r.to_) :
  (∀ j, eo (gi (v.set r.to_.toNat x) j) (gi v j)) ∧ (∀ w, lB l v.length w → (∀ j, eo (gi w j) (gi v j)) → ∀ j, eo (gi w j) (gi (v.set r.to_.toNat x) j)) ∧ (x ≠ gi v r.to_ → rT (v.set r.to_.toNat x) < rT v) := by
 have hlt : r.to_.toNat < v.length := by omega
 have hcast : ((r.to_.toNat : Nat) : Int) = r.to_ := by omega
 have hg : ∀ j, gi (v.set r.to_.toNat x) j = if j = r.to_ then x else gi v j := fun j => by rw [nu v _ x hlt j, hcast]
 have hsub : eo x (gi v r.to_) := by rw [hx]; exact mJ _ _
 refine ⟨fun j => ?_, fun w hw hwv j => ?_, fun hne => ?_⟩
 ·rw [hg]
  split
  ·rename_i e; rw [e]; exact hsub
  ·exact eo.refl _
 ·rw [hg]
  split
  ·rename_i e
   rw [e, hx]
   exact Gq (eo.trans (hw r hr h0 h1) (Db r hwv)) (hwv _)
  ·exact hwv j
 ·have h2 := zq v r.to_.toNat x hlt
  have h3 : v[r.to_.toNat] = gi v r.to_ := sD h0 h1
  have h4 := HJ hsub hne
  rw [h3] at h2
  omega
structure Lfp (l : List af) (v v' : List W32) : Prop where
 len : v'.length = v.length
 sub : ∀ j, eo (gi v' j) (gi v j)
 best : ∀ w, lB l v.length w → (∀ j, eo (gi w j) (gi v j)) → ∀ j, eo (gi w j) (gi v' j)
 keeps : lB l v.length v'
def iQ (v : List W32) (r : af) : Prop := eo (gi v r.to_) (bi r v)
theorem Au {v : List W32} {t : Int} {x : W32} (h0 : 0 ≤ t) (h1 : t < v.length) (hx : eo x (gi v t)) {r : af} (hr : iQ v r) (hf : r.from_ ≠ t) (ha : r.also ≠ t) : iQ (v.set t.toNat x) r := by
 have hlt : t.toNat < v.length := by omega
 have hcast : ((t.toNat : Nat) : Int) = t := by omega
 have hg : ∀ j, gi (v.set t.toNat x) j = if j = t then x else gi v j := fun j => by rw [nu v _ x hlt j, hcast]
 unfold iQ at hr ⊢
 rw [jZ (v := v.set t.toNat x) (w := v) (by rw [hg, if_neg hf]) (by rw [hg, if_neg ha]), hg]
 split
 ·rename_i e; rw [e] at hr; exact hx.trans hr
 ·exact hr
theorem xd {v : List W32} {r0 : af} {l l' : List Int} (h0 : 0 ≤ r0.to_) (h1 : r0.to_ < v.length) (hl : ∀ y, y ∈ l → y ∈ l') (ht : (gi v r0.to_ ||| bi r0 v) ≠ gi v r0.to_ → r0.to_ ∈ l') :
  (∀ r, iQ v r ∨ iD l r → iQ (v.set r0.to_.toNat (gi v r0.to_ ||| bi r0 v)) r ∨ iD l' r) ∧ (iQ (v.set r0.to_.toNat (gi v r0.to_ ||| bi r0 v)) r0 ∨ iD l' r0) := by
 have hlt : r0.to_.toNat < v.length := by omega
 have hcast : ((r0.to_.toNat : Nat) : Int) = r0.to_ := by omega
 by_cases hc : (gi v r0.to_ ||| bi r0 v) = gi v r0.to_
 ·have e : v.set r0.to_.toNat (gi v r0.to_ ||| bi r0 v) = v := by
   rw [hc]
   have := sD h0 h1
   rw [← this]
   simp
  rw [e]
  refine ⟨fun r hr => hr.imp id fun hw => hw.imp (hl _) (hl _), .inl ?_⟩
  show eo (gi v r0.to_) (bi r0 v)
  rw [← hc]
  exact mJ _ _
 ·have ht := ht hc
  have key : ∀ r, (r.from_ = r0.to_ ∨ r.also = r0.to_) → iD l' r := fun r h => h.elim (fun e => .inl (e ▸ ht)) fun e => .inr (e ▸ ht)
  refine ⟨fun r hr => ?_, ?_⟩
  ·by_cases hin : r.from_ = r0.to_ ∨ r.also = r0.to_
   ·exact .inr (key r hin)
   ·rcases hr with hr | hr
    ·exact .inl (Au h0 h1 (Da _ _) hr (fun e => hin (.inl e)) fun e => hin (.inr e))
    ·exact .inr (hr.imp (hl _) (hl _))
  ·by_cases hin : r0.from_ = r0.to_ ∨ r0.also = r0.to_
   ·exact .inr (key r0 hin)
   ·refine .inl ?_
    have hg : ∀ j, gi (v.set r0.to_.toNat (gi v r0.to_ ||| bi r0 v)) j = if j = r0.to_ then (gi v r0.to_ ||| bi r0 v) else gi v j := fun j => by rw [nu v _ _ hlt j, hcast]
    show eo (gi _ r0.to_) (bi r0 _)
    rw [jZ (v := v.set r0.to_.toNat (gi v r0.to_ ||| bi r0 v)) (w := v) (by rw [hg, if_neg fun e => hin (.inl e)]) (by rw [hg, if_neg fun e => hin (.inr e)]), hg, if_pos rfl]
    exact mJ _ _
theorem Av (n : Nat) (hn : n ≤ 65536) (x1 : List (List Int)) (us : List (List Int)) (rs : List af) (x6 : List af) (i0 : Nat) (hrs : ∀ r ∈ rs, 0 ≤ r.to_ ∧ r.to_ < (n : Int)) (hus : ∀ k ∈ us.getD i0 [], ∃ q : Nat, k = (q : Int) ∧ q < rs.length) (hlen : (us.getD i0 []).length ≤ 1000000) :
  ∀ (m i : Nat) (v : List W32) (l : List Int) (tb : List Bool), i + m = (us.getD i0 []).length → v.length = n → WK n l tb →
  ∃ v' l' tb', a8 v x1 us l tb rs x6 i0 (((us.getD i0 []).length : Nat) : Int) (i : Int) = some (v', l', tb') ∧ v'.length = n ∧ WK n l' tb' ∧ (∀ j, eo (gi v' j) (gi v j)) ∧ (∀ w, lB rs n w → (∀ j, eo (gi w j) (gi v j)) → ∀ j, eo (gi w j) (gi v' j)) ∧
   2 * rT v' + l'.length ≤ 2 * rT v + l.length ∧ (∀ r, iQ v r ∨ iD l r → iQ v' r ∨ iD l' r) ∧ (∀ (q : Nat) (r : af), rs[q]? = some r → (q : Int) ∈ (us.getD i0 []).drop i → iQ v' r ∨ iD l' r)
 | 0, i, v, l, tb, h, hv, hw => by
  rw [a8, iN (by omega)]
  refine ⟨v, l, tb, rfl, hv, hw, fun j => eo.refl _, fun w _ hh => hh, Nat.le_refl _, fun r hr => hr, fun q r _ hq => ?_⟩
  rw [List.drop_eq_nil_of_le (by omega)] at hq
  cases hq
 | m + 1, i, v, l, tb, h, hv, hw => by
  have hi : ax (i : Int) 1 = ((i + 1 : Nat) : Int) := by rw [dS (by omega) (by omega)]; omega
  have hlt : i < (us.getD i0 []).length := by omega
  rw [a8, iP (by omega), iP (by omega), iP (by omega), hi]
  have e : List.getD (us.getD i0 []) (Int.toNat (i : Int)) 0 = (us.getD i0 [])[i] := by
   rw [Int.toNat_natCast]
   exact (List.getD_eq_getElem?_getD ..).trans (by rw [List.getElem?_eq_getElem hlt]; rfl)
  obtain ⟨q, hq1, hq2⟩ := hus _ (List.getElem_mem hlt)
  have hdrop : (us.getD i0 []).drop i = (us.getD i0 [])[i] :: (us.getD i0 []).drop (i + 1) := List.drop_eq_getElem_cons hlt
  rw [hdrop, e, hq1, iP (by omega), iP (by omega)]
  have er : List.getD rs (Int.toNat (q : Int)) ag = rs[q] := by simp [List.getD, hq2]
  rw [er]
  obtain ⟨r0, r1⟩ := hrs _ (List.getElem_mem hq2)
  have r1' : rs[q].to_ < (v.length : Int) := by rw [hv]; exact r1
  rw [zo v us x6 rs[q] r0 r1']
  simp only [bind, Option.bind_some]
  have hx : bi rs[q] v ||| gi v rs[q].to_ = gi v rs[q].to_ ||| bi rs[q] v := BitVec.or_comm _ _
  obtain ⟨c1, c2, c3⟩ := BQ (l := rs) (x := gi v rs[q].to_ ||| bi rs[q] v) (List.getElem_mem hq2) r0 r1' hx.symm
  have hlen2 : (v.set rs[q].to_.toNat (gi v rs[q].to_ ||| bi rs[q] v)).length = n := by simp [hv]
  have hrq : rs[q]? = some rs[q] := List.getElem?_eq_getElem hq2
  by_cases hc : (gi v rs[q].to_ ||| bi rs[q] v) = gi v rs[q].to_
  ·rw [if_neg (by simpa using hc)]
   obtain ⟨d1, d2⟩ := xd (l := l) (l' := l) r0 r1' (fun _ h => h) (fun hh => absurd hc hh)
   have hpe : v.set rs[q].to_.toNat (gi v rs[q].to_ ||| bi rs[q] v) = v := by
    rw [hc]
    have := sD r0 r1'
    rw [← this]; simp
   rw [hpe] at d1 d2 ⊢
   obtain ⟨v', l', tb', q1, q2, q3, q4, q5, q6, q7, q8⟩ := Av n hn x1 us rs x6 i0 hrs hus hlen m (i + 1) v l tb (by omega) hv hw
   refine ⟨v', l', tb', q1, q2, q3, q4, q5, q6, q7, fun k r hk hm => ?_⟩
   rcases List.mem_cons.1 hm with hm | hm
   ·have : k = q := by omega
    subst this
    rw [hrq] at hk
    cases hk
    exact q7 _ d2
   ·exact q8 k r hk hm
  ·rw [if_pos (by simpa using hc)]
   obtain ⟨l1, tb1, a1, a2, a3, a4⟩ := sC hn hw r0 r1
   rw [a1]
   simp only [Option.bind_some]
   obtain ⟨d1, d2⟩ := xd (l := l) (l' := l1) r0 r1' (fun y hy => (a3 y).2 (.inl hy)) (fun _ => (a3 _).2 (.inr rfl))
   have hp := c3 hc
   obtain ⟨v', l', tb', q1, q2, q3, q4, q5, q6, q7, q8⟩ := Av n hn x1 us rs x6 i0 hrs hus hlen m (i + 1) _ l1 tb1 (by omega) hlen2 a2
   refine ⟨v', l', tb', q1, q2, q3, fun j => (q4 j).trans (c1 j), fun w hk hwv => q5 w hk (c2 w (hv ▸ hk) hwv), by omega, fun r hr => q7 r (d1 r hr), fun k r hk hm => ?_⟩
   rcases List.mem_cons.1 hm with hm | hm
   ·have : k = q := by omega
    subst this
    rw [hrq] at hk
    cases hk
    exact q7 _ d2
   ·exact q8 k r hk hm
theorem En (n : Nat) (hn : n ≤ 65536) (x1 : List (List Int)) (us : List (List Int)) (rs : List af) (x6 : List af) (hrs : ∀ r ∈ rs, 0 ≤ r.to_ ∧ r.to_ < (n : Int)) (husl : us.length = n) (hus : ∀ i0 : Nat, ∀ k ∈ us.getD i0 [], ∃ q : Nat, k = (q : Int) ∧ q < rs.length) (hlen : ∀ i0 : Nat, (us.getD i0 []).length ≤ 1000000)
  (huse : ∀ (q : Nat) (r : af) (j : Int), rs[q]? = some r → (r.from_ = j ∨ r.also = j) → 0 ≤ j → j < (n : Int) → (q : Int) ∈ us.getD j.toNat []) :
  ∀ (M : Nat) (v : List W32) (l : List Int) (tb : List Bool), 2 * rT v + l.length ≤ M → v.length = n → WK n l tb → (∀ r ∈ rs, iQ v r ∨ iD l r) →
  ∃ v', bL v x1 us l tb rs x6 = some v' ∧ v'.length = n ∧ (∀ j, eo (gi v' j) (gi v j)) ∧ (∀ w, lB rs n w → (∀ j, eo (gi w j) (gi v j)) → ∀ j, eo (gi w j) (gi v' j)) ∧ ∀ r ∈ rs, iQ v' r
 | M, v, l, tb, hM, hv, hw, hall => by
  rw [bL]
  unfold dq
  simp only [bind, Option.bind_some]
  by_cases h0 : 0 < l.length
  ·rw [iP (by omega)]
   obtain ⟨i, l1, tb1, a1, a2, a3, a4, a5⟩ := D1 hn hw h0
   have hir := hw.rng i a2
   rw [a1]
   simp only [Option.bind_some]
   rw [if_pos (decide_eq_true hir.1), if_pos (decide_eq_true (by rw [husl]; exact hir.2))]
   obtain ⟨v', l', tb', q1, q2, q3, q4, q5, q6, q7, q8⟩ := Av n hn x1 us rs x6 i.toNat hrs (hus _) (hlen _) (us.getD i.toNat []).length 0 v l1 tb1 (Nat.zero_add _) hv a3
   rw [show ((0 : Nat) : Int) = 0 from rfl] at q1
   rw [q1]
   simp only [Option.bind_some]
   have hall' : ∀ r ∈ rs, iQ v' r ∨ iD l' r := by
    intro r hr
    obtain ⟨q, hq⟩ := List.getElem?_of_mem hr
    by_cases hin : r.from_ = i ∨ r.also = i
    ·exact q8 q r hq (by rw [List.drop_zero]; exact huse q r i hq hin hir.1 hir.2)
    ·refine q7 r ((hall r hr).imp id fun hwt => ?_)
     rcases hwt with hwt | hwt
     ·exact .inl ((a4 _).2 ⟨hwt, fun e => hin (.inl e)⟩)
     ·exact .inr ((a4 _).2 ⟨hwt, fun e => hin (.inr e)⟩)
   match M, hM with
   | 0, hM => omega
   | M + 1, hM =>
    obtain ⟨v2, b1, b2, b3, b4, b5⟩ := En n hn x1 us rs x6 hrs husl hus hlen huse M v' l' tb' (by omega) q2 q3 hall'
    exact ⟨v2, b1, b2, fun j => (b3 j).trans (q4 j), fun w hk hwv => b4 w hk (q5 w hk hwv), b5⟩
  ·rw [iN (by omega)]
   refine ⟨v, rfl, hv, fun j => eo.refl _, fun w _ hh => hh, fun r hr => (hall r hr).resolve_right fun hwt => ?_⟩
   have : l = [] := List.length_eq_zero_iff.1 (by omega)
   subst this
   rcases hwt with h | h <;> cases h
theorem Eo (n : Nat) (hn : n ≤ 65536) (v : List W32) (x1 x2 : List (List Int)) (x5 x6 : List af) : ∀ (m i : Nat) (l : List Int) (tb : List Bool), i + m = n → WK n l tb → 
  ∃ l' tb', bp v x1 x2 l tb x5 x6 (n : Int) (i : Int) = some (l', tb') ∧ WK n l' tb' ∧ (∀ x, x ∈ l' ↔ x ∈ l ∨ ((i : Int) ≤ x ∧ x < (n : Int)))
 | 0, i, l, tb, h, hw => by
  rw [bp, iN (by omega)]
  exact ⟨l, tb, rfl, hw, fun x => ⟨.inl, fun hx => hx.resolve_right (by omega)⟩⟩
 | m + 1, i, l, tb, h, hw => by
  have hi : ax (i : Int) 1 = ((i + 1 : Nat) : Int) := by rw [dS (by omega) (by omega)]; omega
  rw [bp, iP (by omega), hi]
  obtain ⟨l1, tb1, a1, a2, a3, a4⟩ := sC hn hw (i := (i : Int)) (by omega) (by omega)
  rw [a1]
  simp only [bind, Option.bind_some]
  obtain ⟨l', tb', b1, b2, b3⟩ := Eo n hn v x1 x2 x5 x6 m (i + 1) l1 tb1 (by omega) a2
  refine ⟨l', tb', b1, b2, fun x => ?_⟩
  rw [b3, a3]
  constructor
  ·rintro ((h | h) | h)
   ·exact .inl h
   ·exact .inr (by omega)
   ·exact .inr (by omega)
  ·rintro (h | h)
   ·exact .inl (.inl h)
   ·by_cases hx : x = (i : Int)
    ·exact .inl (.inr hx)
    ·exact .inr (by omega)
structure kg (n : Nat) (b : List af) (v0 v : List W32) (us : List (List Int)) (l : List Int) (tb : List Bool) (rs : List af) (i : Nat) : Prop where
 vl : v.length = n
 ul : us.length = n
 wk : WK n l tb
 isr : ∀ r, r ∈ rs ↔ r ∈ b.take i ∧ 0 ≤ r.to_ ∧ r.to_ < (n : Int)
 rl : rs.length ≤ i
 isu : ∀ i0 : Nat, ∀ k ∈ us.getD i0 [], ∃ q : Nat, k = (q : Int) ∧ q < rs.length
 un : ∀ i0 : Nat, (us.getD i0 []).length ≤ 2 * i
 use : ∀ (q : Nat) (r : af) (j : Int), rs[q]? = some r → (r.from_ = j ∨ r.also = j) → 0 ≤ j → j < (n : Int) → (q : Int) ∈ us.getD j.toNat []
 down : ∀ j, eo (gi v j) (gi v0 j)
 best : ∀ w, lB b n w → (∀ j, eo (gi w j) (gi v0 j)) → ∀ j, eo (gi w j) (gi v j)
 hold : ∀ r ∈ rs, ((0 ≤ r.from_ ∧ r.from_ < (n : Int)) ∨ (0 ≤ r.also ∧ r.also < (n : Int))) ∨ iQ v r
theorem kg.next {n : Nat} {b : List af} {v0 v : List W32} {us : List (List Int)} {l : List Int} {tb : List Bool} {rs : List af} {i : Nat} (h : kg n b v0 v us l tb rs i) (hi : i < b.length) (hn : ¬ (0 ≤ b[i].to_ ∧ b[i].to_ < (n : Int))) : kg n b v0 v us l tb rs (i + 1) where
 vl := h.vl
 ul := h.ul
 wk := h.wk
 isr := fun r => by
  rw [h.isr, qS hi]
  constructor
  ·rintro ⟨h1, h2⟩; exact ⟨.inl h1, h2⟩
  ·rintro ⟨h1 | h1, h2⟩
   ·exact ⟨h1, h2⟩
   ·subst h1; exact absurd h2 hn
 rl := by have := h.rl; omega
 isu := h.isu
 un := fun i0 => by have := h.un i0; omega
 use := h.use
 down := h.down
 best := h.best
 hold := h.hold
theorem kg.rule {n : Nat} {b : List af} {v0 v : List W32} {us : List (List Int)} {l l' : List Int} {tb tb' : List Bool} {rs : List af} {i : Nat} (h : kg n b v0 v us l tb rs i) (hi : i < b.length) (h0 : 0 ≤ b[i].to_) (h1 : b[i].to_ < (n : Int)) (hw : WK n l' tb') :
  kg n b v0 (v.set b[i].to_.toNat (gi v b[i].to_ ||| bi b[i] v)) (lM n (lM n us b[i].from_ (rs.length : Int)) b[i].also (rs.length : Int)) l' tb' (rs ++ [b[i]]) (i + 1) := by
 have h1' : b[i].to_ < (v.length : Int) := by rw [h.vl]; exact h1
 have hlt : b[i].to_.toNat < v.length := by omega
 obtain ⟨c1, c2, c3⟩ := BQ (l := b) (x := gi v b[i].to_ ||| bi b[i] v) (List.getElem_mem hi) h0 h1' (BitVec.or_comm _ _)
 constructor
 ·rw [List.length_set, h.vl]
 ·rw [lO, lO, h.ul]
 ·exact hw
 ·intro r
  rw [List.mem_append, List.mem_singleton, h.isr, qS hi]
  constructor
  ·rintro (⟨h2, h3⟩ | rfl)
   ·exact ⟨.inl h2, h3⟩
   ·exact ⟨.inr rfl, h0, h1⟩
  ·rintro ⟨h2 | h2, h3⟩
   ·exact .inl ⟨h2, h3⟩
   ·exact .inr h2
 ·have := h.rl
  simp; omega
 ·intro i0 k hk
  rcases (qT n us h.ul _ _ _ i0 k).1 hk with hk | ⟨rfl, _⟩
  ·obtain ⟨q, h2, h3⟩ := h.isu i0 k hk
   exact ⟨q, h2, by simp; omega⟩
  ·exact ⟨rs.length, rfl, by simp⟩
 ·intro i0
  have h2 := Bi n us h.ul b[i].from_ b[i].also (rs.length : Int) i0
  have h3 := h.un i0
  omega
 ·intro q r j hq hj hj0 hj1
  rw [qT n us h.ul]
  rcases Bj hq with hq | ⟨rfl, rfl⟩
  ·exact .inl (h.use q r j hq hj hj0 hj1)
  ·refine .inr ⟨rfl, ?_⟩
   rcases hj with hj | hj
   ·exact .inl (by rw [hj]; exact ⟨hj0, hj1, rfl⟩)
   ·exact .inr (by rw [hj]; exact ⟨hj0, hj1, rfl⟩)
 ·exact fun j => (c1 j).trans (h.down j)
 ·exact fun w hk hwv => c2 w (h.vl ▸ hk) (h.best w hk hwv)
 ·intro r hr
  by_cases hin : (0 ≤ r.from_ ∧ r.from_ < (n : Int)) ∨ (0 ≤ r.also ∧ r.also < (n : Int))
  ·exact .inl hin
  ·refine .inr ?_
   have e : bi r (v.set b[i].to_.toNat (gi v b[i].to_ ||| bi b[i] v)) = bi r v := vS (by simp) (by rw [List.length_set, h.vl]; exact hin)
   show eo _ _
   rw [e]
   rcases List.mem_append.1 hr with hr | hr
   ·exact (c1 r.to_).trans ((h.hold r hr).resolve_left hin)
   ·rw [List.mem_singleton] at hr
    subst hr
    have hcast : ((b[i].to_.toNat : Nat) : Int) = b[i].to_ := by omega
    have hg := nu v _ (gi v b[i].to_ ||| bi b[i] v) hlt b[i].to_
    rw [hg, hcast, if_pos rfl]
    exact mJ _ _
theorem xe (n : Nat) (hn : n ≤ 65536) (x1 : List (List Int)) (b : List af) (hb : b.length ≤ 65536) (v0 : List W32) : ∀ (m i : Nat) (v : List W32) (us : List (List Int)) (l : List Int) (tb : List Bool) (rs : List af), i + m = b.length → kg n b v0 v us l tb rs i →
  ∃ v' us' l' tb' rs', aO v x1 us l tb rs b b (b.length : Int) (i : Int) = some (v', us', l', tb', rs') ∧ kg n b v0 v' us' l' tb' rs' b.length
 | 0, i, v, us, l, tb, rs, h, hf => by
  rw [aO, iN (by omega)]
  have : i = b.length := by omega
  subst this
  exact ⟨v, us, l, tb, rs, rfl, hf⟩
 | m + 1, i, v, us, l, tb, rs, h, hf => by
  have hi : ax (i : Int) 1 = ((i + 1 : Nat) : Int) := by rw [dS (by omega) (by omega)]; omega
  have hlt : i < b.length := by omega
  rw [aO, iP (by omega), iP (by omega), iP (by omega), hi]
  have e : List.getD b (Int.toNat (i : Int)) ag = b[i] := by simp [List.getD, hlt]
  rw [e]
  by_cases h0 : b[i].to_ < 0
  ·rw [if_pos (decide_eq_true h0)]
   exact xe n hn x1 b hb v0 m (i + 1) v us l tb rs (by omega) (hf.next hlt (by omega))
  ·rw [if_neg (by simpa using h0)]
   by_cases h1 : b[i].to_ ≥ (v.length : Int)
   ·rw [if_pos (decide_eq_true h1)]
    exact xe n hn x1 b hb v0 m (i + 1) v us l tb rs (by omega) (hf.next hlt (by rw [hf.vl] at h1; omega))
   ·rw [if_neg (by simpa using h1)]
    have h2 := Gs v x1 l tb rs [b[i].from_, b[i].also] b b[i].to_ b[i].from_ b[i].also b[i].keep b[i].if_ b[i].then_ b (b.length : Int) (i : Int) (by simp) 2 0 us rfl (by rw [hf.ul, hf.vl]) (fun j => by have := hf.un j; omega)
    rw [show ((0 : Nat) : Int) = 0 from rfl] at h2
    rw [h2]
    simp only [bind, Option.bind_some, List.drop_zero, List.foldl_cons, List.foldl_nil]
    rw [if_pos (Nat.ble_eq_true_of_le (by have := hf.rl; simp only [List.length_singleton, aK]; omega))]
    have g0 : 0 ≤ b[i].to_ := by omega
    have g1 : b[i].to_ < (v.length : Int) := by omega
    have g2 : b[i].to_ < (n : Int) := by rw [← hf.vl]; exact g1
    rw [zo v _ b b[i] g0 g1, hf.vl]
    simp only [Option.bind_some]
    by_cases hc : (gi v b[i].to_ ||| bi b[i] v) = gi v b[i].to_
    ·rw [if_neg (by simpa using hc)]
     exact xe n hn x1 b hb v0 m (i + 1) _ _ l tb _ (by omega) (hf.rule hlt g0 g2 hf.wk)
    ·rw [if_pos (by simpa using hc)]
     obtain ⟨l1, tb1, a1, a2, a3, a4⟩ := sC hn hf.wk g0 g2
     rw [a1]
     simp only [Option.bind_some]
     exact xe n hn x1 b hb v0 m (i + 1) _ _ l1 tb1 _ (by omega) (hf.rule hlt g0 g2 a2)
theorem kg.start (v0 : List W32) (b : List af) : kg v0.length b v0 v0 (List.replicate v0.length []) [] (List.replicate v0.length false) [] 0 where
 vl := rfl
 ul := by simp
 wk := ⟨by simp, by simp, by simp, fun i hi => by simp [List.getD, List.getElem?_replicate, hi]⟩
 isr := fun r => by simp
 rl := Nat.le_refl _
 isu := fun i0 k hk => by rw [rS] at hk; cases hk
 un := fun i0 => by rw [rS]; simp
 use := fun q r j hq => by simp at hq
 down := fun j => eo.refl _
 best := fun w _ h => h
 hold := fun r hr => by cases hr
theorem Fq (v0 : List W32) (x1 : List (List Int)) (b : List af) (hv : v0.length ≤ 65536) (hb : b.length ≤ 65536) : ∃ v us, fi v0 x1 b = some (v, us) ∧ Lfp b v0 v := by
 unfold fi
 rw [iP (by omega), if_pos (decide_eq_true (by simp only [aK]; omega)), if_pos (decide_eq_true (by simp only [aK]; omega))]
 rw [show Int.toNat ((v0.length : Nat) : Int) = v0.length by omega]
 obtain ⟨v, us, l, tb, rs, h1, hf⟩ := xe v0.length hv x1 b hb v0 b.length 0 v0 _ _ _ _ (by omega) (kg.start v0 b)
 rw [show ((0 : Nat) : Int) = 0 from rfl] at h1
 rw [h1]
 simp only [bind, Option.bind_some]
 obtain ⟨l', tb', h2, h3, h4⟩ := Eo v0.length hv v x1 us rs b v0.length 0 l tb (by omega) hf.wk
 rw [show ((0 : Nat) : Int) = 0 from rfl] at h2
 rw [hf.vl, h2]
 simp only [Option.bind_some]
 obtain ⟨v', q1, q2, q3, q4, q5⟩ := En v0.length hv x1 us rs b (fun r hr => ((hf.isr r).1 hr).2) hf.ul hf.isu (fun i0 => by have := hf.un i0; omega) hf.use _ v l' tb' (Nat.le_refl _) hf.vl h3 (fun r hr => by
  rcases hf.hold r hr with (h | h) | h
  ·exact .inr (.inl ((h4 _).2 (.inr (by omega))))
  ·exact .inr (.inr ((h4 _).2 (.inr (by omega))))
  ·exact .inl h)
 rw [q1]
 refine ⟨v', us, rfl, q2, fun j => (q3 j).trans (hf.down j), fun w hk hwv => q4 w (fun r hr => hk r (List.mem_of_mem_take ((hf.isr r).1 hr).1)) (hf.best w hk hwv), fun r hr a0 a1 => ?_⟩
 exact q5 r ((hf.isr r).2 ⟨by rw [List.take_length]; exact hr, a0, a1⟩)
theorem Gt (n : Int) (b : List af) (hb : b.length ≤ 65536) : ∃ v, mZ n b = some v ∧ Lfp b (if 0 ≤ n ∧ n ≤ 65536 then List.replicate n.toNat 0#32 else []) v := by
 unfold mZ
 have hz : gz 0 = some 0#32 := by kernel_rfl
 rw [hz]
 simp only [bind, Option.bind_some]
 rw [Bg]
 simp only [Option.bind_some]
 obtain ⟨v, us, h1, h2⟩ := Fq (if 0 ≤ n ∧ n ≤ 65536 then List.replicate n.toNat 0#32 else []) [] b (by split <;> simp; omega) hb
 rw [h1]
 exact ⟨v, rfl, h2⟩
def base (fs : FS) : Nat → Nat
 | 0 => 0
 | f + 1 => base fs f + (2 + (List.getD fs f []).length)
theorem o2 {p : ac} (hg : a9 p) : ∀ f, base p.funcs f ≤ 66 * f
 | 0 => Nat.le_refl _
 | f + 1 => by
  have h1 := o2 hg f
  have h2 := hg.le f
  rw [base]
  omega
theorem o3 (fs : FS) : ∀ {f g : Nat}, f < g → base fs f + 2 + (List.getD fs f []).length ≤ base fs g
 | f, 0, h => by omega
 | f, g + 1, h => by
  rw [base]
  rcases Nat.lt_or_ge f g with h1 | h1
  ·have := o3 fs h1; omega
  ·have : f = g := by omega
   subst this; omega
structure iE (p : ac) (bs : List Int) : Prop where
 len : bs.length = p.funcs.length
 get : ∀ f, f < p.funcs.length → List.getD bs f 0 = (base p.funcs f : Int)
theorem Gu (p : ac) (hg : a9 p) (x0 : List Int) : ∀ (m f : Nat) (bs : List Int), f + m = p.funcs.length → bs.length = f → (∀ g, g < f → List.getD bs g 0 = (base p.funcs g : Int)) → ∃ bs', fX x0 bs (base p.funcs f : Int) p.funcs (p.funcs.length : Int) (f : Int) = some (bs', (base p.funcs p.funcs.length : Int)) ∧ iE p bs'
 | 0, f, bs, h, hb, hget => by
  rw [fX, iN (by omega)]
  have : f = p.funcs.length := by omega
  subst this
  exact ⟨bs, rfl, hb, hget⟩
 | m + 1, f, bs, h, hb, hget => by
  have h1 := hg.funcs
  have h2 := hg.le f
  have h3 := o2 hg f
  rw [fX, iP (by omega), iP (by omega), iP (by omega), if_pos (Nat.ble_eq_true_of_le (by simp only [List.length_singleton, aK]; omega)), Int.toNat_natCast, inc f (by omega)]
  have e : ax (base p.funcs f : Int) (ax 2 ((List.getD p.funcs f []).length : Int)) = (base p.funcs (f + 1) : Int) := by
   rw [dS (a := 2) (by omega) (by omega), dS (by omega) (by omega), base]
   omega
  rw [e]
  refine Gu p hg x0 m (f + 1) _ (by omega) (by simp [hb]) fun g hgf => ?_
  rw [iF]
  split
  ·rename_i e; subst e; rw [hb]
  ·exact hget g (by omega)
theorem Aw (p : ac) (hg : a9 p) : ∃ bs, j9 p = some ((base p.funcs p.funcs.length : Int), bs) ∧ iE p bs := by
 obtain ⟨bs, q1, q2⟩ := Gu p hg [] p.funcs.length 0 [] (Nat.zero_add _) rfl (fun g h => by omega)
 unfold j9
 rw [show (base p.funcs 0 : Int) = 0 from rfl, show ((0 : Nat) : Int) = 0 from rfl] at q1
 rw [bind_some q1]
 exact ⟨bs, rfl, q2⟩
theorem il {p : ac} {bs : List Int} (hb : iE p bs) {f : Nat} (hf : f < p.funcs.length) : aZ ⟨bs⟩ (f : Int) = some (base p.funcs f : Int) := by
 have h1 := hb.len
 unfold aZ
 rw [iP (by omega), if_pos (decide_eq_true (by show (f : Int) < (bs.length : Int); omega)), Int.toNat_natCast]
 exact congrArg some (hb.get f hf)
theorem o4 {p : ac} (hg : a9 p) {bs : List Int} (hb : iE p bs) {f : Nat} (hf : f < p.funcs.length) : bU ⟨bs⟩ (f : Int) = some ((base p.funcs f + 1 : Nat) : Int) := by
 have h1 := hb.len
 have h2 := o2 hg f
 have h3 := hg.funcs
 unfold bU
 rw [iP (by omega), if_pos (decide_eq_true (by show (f : Int) < (bs.length : Int); omega)), Int.toNat_natCast]
 show some (ax (List.getD bs f 0) 1) = _
 rw [hb.get f hf, inc _ (by omega)]
theorem lb {p : ac} (hg : a9 p) {bs : List Int} (hb : iE p bs) {f : Nat} (hf : f < p.funcs.length) {i : Int} (h0 : 0 ≤ i) (h1 : i ≤ 65536) : bb ⟨bs⟩ (f : Int) i = some ((base p.funcs f + 2 + i.toNat : Nat) : Int) := by
 have h2 := hb.len
 have h3 := o2 hg f
 have h4 := hg.funcs
 unfold bb
 rw [iP (by omega), if_pos (decide_eq_true (by show (f : Int) < (bs.length : Int); omega)), Int.toNat_natCast]
 show some (ax (ax (List.getD bs f 0) 2) i) = _
 rw [hb.get f hf, dS (a := (base p.funcs f : Int)) (by omega) (by omega), dS (by omega) (by omega)]
 congr 1
 omega
abbrev jy : W32 := 4294967295#32
def xf (fs : FS) (f : Nat) (js : List Int) (own also : Int) (keep then_ : W32) : List af := js.map fun y => ⟨((base fs f + 2 + y.toNat : Nat) : Int), own, also, keep, 0#32, then_⟩
def rU (p : ac) (u : List W32) (f i : Nat) : List af :=
 let own : Int := ((base p.funcs f + 2 + i : Nat) : Int)
 let js := succ (nde p f i)
 if (nde p f i).kind = 3 then xf p.funcs f js own (-1) jy (one (nde p f i).arg)
 else if (nde p f i).kind = 4 then xf p.funcs f js own (-1) (~~~(one (nde p f i).arg)) 0#32
 else if (nde p f i).kind = 7 then ⟨(base p.funcs (nde p f i).arg.toNat : Int), own, -1, jy, 0#32, 0#32⟩ :: xf p.funcs f js own ((base p.funcs (nde p f i).arg.toNat + 1 : Nat) : Int) (~~~(List.getD u (nde p f i).arg.toNat 0#32)) 0#32
 else if (nde p f i).kind = 9 then ⟨((base p.funcs f + 1 : Nat) : Int), own, -1, jy, 0#32, 0#32⟩ :: xf p.funcs f js own (-1) jy 0#32
 else xf p.funcs f js own (-1) jy 0#32
theorem Gv (fs : FS) (f : Nat) (x : ad) (own also : Int) (keep then_ : W32) : (xf fs f (succ x) own also keep then_).length ≤ 2 := by
 unfold xf
 rw [List.length_map]
 exact lL x
theorem zr (p : ac) (u : List W32) (f i : Nat) : (rU p u f i).length ≤ 3 := by
 have h := Gv p.funcs f (nde p f i)
 unfold rU
 simp only []
 split
 ·exact Nat.le_succ_of_le (h _ _ _ _)
 ·split
  ·exact Nat.le_succ_of_le (h _ _ _ _)
  ·split
   ·rw [List.length_cons]; exact Nat.succ_le_succ (h _ _ _ _)
   ·split
    ·rw [List.length_cons]; exact Nat.succ_le_succ (h _ _ _ _)
    ·exact Nat.le_succ_of_le (h _ _ _ _)
theorem o5 (l1 : List Int) (l2 : List W32) (l3 : List af) (b0 b01 b02 : Int) (b03 : FS) (r : af) (h : l3.length ≤ 65536) : co l1 l2 l3 b0 b01 b02 b03 r = some (l3 ++ [r]) := by
 unfold co
 rw [if_pos (Nat.ble_eq_true_of_le (by simp only [List.length_singleton, aK]; omega))]
theorem zt (p : ac) (hg : a9 p) (bs : List Int) (hb : iE p bs) (x1 : List W32) (js : List Int) (hj : js.length ≤ 2) (hjr : ∀ y ∈ js, 0 ≤ y ∧ y ≤ 65536) (x4 x5 x6 : Int) (x7 : FS) (own also : Int) (keep th : W32) (f : Nat) (hf : f < p.funcs.length) : ∀ (m k : Nat) (out : List af) (to : Int), k + m = js.length → out.length + m ≤ 65536 → aS bs x1 out js x4 x5 x6 x7 to own also keep 0#32 th (f : Int) (js.length : Int) (k : Int) = some (out ++ xf p.funcs f (js.drop k) own also keep th)
 | 0, k, out, to, h, ho => by
  rw [aS, iN (by omega), List.drop_eq_nil_of_le (by omega)]
  simp [xf]
 | m + 1, k, out, to, h, ho => by
  have hlt : k < js.length := by omega
  have hg1 : List.getD js k 0 = js[k] := by simp [List.getD, hlt]
  have hr := hjr _ (List.getElem_mem hlt)
  rw [aS, iP (by omega), iP (by omega), iP (by omega), Int.toNat_natCast, hg1, bind_some (lb hg hb hf hr.1 hr.2), bind_some (o5 _ _ _ _ _ _ _ _ (by omega)), inc k (by omega), zt p hg bs hb x1 js hj hjr x4 x5 x6 x7 own also keep th f hf m (k + 1) _ _ (by omega) (by rw [List.length_append, List.length_singleton]; omega), List.append_assoc, List.singleton_append, List.drop_eq_getElem_cons hlt]
  rfl
theorem Dc (p : ac) (hg : a9 p) (bs : List Int) (hb : iE p bs) (u : List W32) (hu : u.length = p.funcs.length) (out : List af) (ho : out.length + 3 ≤ 65536) (b0 b01 b02 : Int) (f i : Nat) (hf : f < p.funcs.length) (hi : i < (List.getD p.funcs f []).length) : gE bs u out b0 b01 b02 p.funcs (f : Int) (i : Int) = some (out ++ rU p u f i) := by
 have hok := hg.node f i hf hi
 have hle := hg.le f
 have hjr := oQ hok (by omega)
 have hjr' : ∀ y ∈ succ (nde p f i), 0 ≤ y ∧ y ≤ 65536 := fun y hy => by have := hjr y hy; omega
 have hsl := lL (nde p f i)
 have go := fun (own also : Int) (keep th : W32) (o : List af) (h : o.length + 2 ≤ 65536) => zt p hg bs hb u (succ (nde p f i)) hsl hjr' b0 b01 b02 p.funcs own also keep th f hf _ 0 o 0 (Nat.zero_add _) (by omega)
 have hc := hok.call
 unfold gE
 rw [iP (by omega), iP (by omega), iP (by omega), Int.toNat_natCast f, iP (by omega), Int.toNat_natCast i, bind_some (lb hg hb hf (i := (i : Int)) (by omega) (by omega)), Int.toNat_natCast i]
 unfold rU
 simp only []
 by_cases h3 : (nde p f i).kind = 3
 ·rw [if_pos (eqT h3), if_pos h3, bind_some (fQ _), bind_some (f5 _)]
  have q := go ((base p.funcs f + 2 + i : Nat) : Int) (-1) jy (one (nde p f i).arg) out (by omega)
  rw [show ((0 : Nat) : Int) = 0 from rfl, List.drop_zero] at q
  rw [bind_some q]
 rw [if_neg (eqF h3), if_neg h3]
 by_cases h4 : (nde p f i).kind = 4
 ·rw [if_pos (eqT h4), if_pos h4, bind_some (fQ _), bind_some (f5 _)]
  have q := go ((base p.funcs f + 2 + i : Nat) : Int) (-1) (~~~(one (nde p f i).arg)) 0#32 out (by omega)
  rw [show ((0 : Nat) : Int) = 0 from rfl, List.drop_zero] at q
  rw [bind_some q]
 rw [if_neg (eqF h4), if_neg h4]
 by_cases h7 : (nde p f i).kind = 7
 ·have ha := hc h7
  obtain ⟨a, ha2⟩ : ∃ a : Nat, (List.getD (List.getD p.funcs f []) i ae).arg = (a : Int) := ⟨(List.getD (List.getD p.funcs f []) i ae).arg.toNat, by omega⟩
  rw [ha2] at ha
  rw [if_pos (eqT h7), if_pos h7, ha2, Int.toNat_natCast a, bind_some (il hb (by omega)), bind_some (o5 _ _ _ _ _ _ _ _ (by omega)), iP (by omega), iP (by omega), bind_some (o4 hg hb (by omega)), bind_some (f5 _)]
  have q := go ((base p.funcs f + 2 + i : Nat) : Int) ((base p.funcs a + 1 : Nat) : Int) (~~~(List.getD u a 0#32)) 0#32 (out ++ [⟨(base p.funcs a : Int), ((base p.funcs f + 2 + i : Nat) : Int), -1, jy, 0#32, 0#32⟩]) (by rw [List.length_append, List.length_singleton]; omega)
  rw [show ((0 : Nat) : Int) = 0 from rfl, List.drop_zero, List.append_assoc, List.singleton_append] at q
  rw [bind_some q]
 rw [if_neg (eqF h7), if_neg h7]
 by_cases h9 : (nde p f i).kind = 9
 ·rw [if_pos (eqT h9), if_pos h9, bind_some (o4 hg hb hf), bind_some (o5 _ _ _ _ _ _ _ _ (by omega)), bind_some (f5 _)]
  have q := go ((base p.funcs f + 2 + i : Nat) : Int) (-1) jy 0#32 (out ++ [⟨((base p.funcs f + 1 : Nat) : Int), ((base p.funcs f + 2 + i : Nat) : Int), -1, jy, 0#32, 0#32⟩]) (by rw [List.length_append, List.length_singleton]; omega)
  rw [show ((0 : Nat) : Int) = 0 from rfl, List.drop_zero, List.append_assoc, List.singleton_append] at q
  rw [bind_some q]
 ·rw [if_neg (eqF h9), if_neg h9, bind_some (f5 _)]
  have q := go ((base p.funcs f + 2 + i : Nat) : Int) (-1) jy 0#32 out (by omega)
  rw [show ((0 : Nat) : Int) = 0 from rfl, List.drop_zero] at q
  rw [bind_some q]
def kj (p : ac) (u : List W32) (f : Nat) : Nat → Nat → List af
 | _, 0 => []
 | i, m + 1 => rU p u f i ++ kj p u f (i + 1) m
theorem xg (p : ac) (u : List W32) (f : Nat) : ∀ (m i : Nat), (kj p u f i m).length ≤ 3 * m
 | 0, i => Nat.zero_le _
 | m + 1, i => by
  have h1 := xg p u f m (i + 1)
  have h2 := zr p u f i
  rw [kj, List.length_append]
  omega
theorem mK {p : ac} {u : List W32} {f : Nat} {r : af} : ∀ {m i : Nat}, r ∈ kj p u f i m ↔ ∃ k, i ≤ k ∧ k < i + m ∧ r ∈ rU p u f k
 | 0, i => by
  rw [kj]
  exact ⟨(fun h => by cases h), fun ⟨k, h1, h2, _⟩ => by omega⟩
 | m + 1, i => by
  rw [kj, List.mem_append, mK]
  constructor
  ·rintro (h | ⟨k, h1, h2, h3⟩)
   ·exact ⟨i, Nat.le_refl _, by omega, h⟩
   ·exact ⟨k, by omega, by omega, h3⟩
  ·rintro ⟨k, h1, h2, h3⟩
   rcases Nat.eq_or_lt_of_le h1 with rfl | h4
   ·exact .inl h3
   ·exact .inr ⟨k, h4, by omega, h3⟩
theorem tm (p : ac) (hg : a9 p) (bs : List Int) (hb : iE p bs) (u : List W32) (hu : u.length = p.funcs.length) (x3 x4 x5 : Int) (x7 : W32) (f : Nat) (hf : f < p.funcs.length) (x9 : FS) (x10 x11 : Int) : ∀ (m i : Nat) (out : List af), i + m = (List.getD p.funcs f []).length → out.length + 3 * m ≤ 65000 → dz bs u out x3 x4 x5 p.funcs x7 (f : Int) x9 x10 x11 ((List.getD p.funcs f []).length : Int) (i : Int) = some (out ++ kj p u f i m)
 | 0, i, out, h, ho => by
  rw [dz, iN (by omega)]
  simp [kj]
 | m + 1, i, out, h, ho => by
  have h1 := zr p u f i
  have hle := hg.le f
  rw [dz, iP (by omega), bind_some (Dc p hg bs hb u hu out (by omega) x3 x4 x5 f i hf (by omega)), inc i (by omega), tm p hg bs hb u hu x3 x4 x5 x7 f hf x9 x10 x11 m (i + 1) _ (by omega) (by rw [List.length_append]; omega), kj, List.append_assoc]
def BR (p : ac) (fm : W32) (f : Nat) : List af := if fm.getLsbD f = true then [⟨(base p.funcs f : Int), -1, -1, 0#32, 0#32, 0#32⟩] else []
def oa (p : ac) (u : List W32) (fm : W32) (f : Nat) : List af := BR p fm f ++ (⟨((base p.funcs f + 2 + 0 : Nat) : Int), (base p.funcs f : Int), -1, jy, 0#32, 0#32⟩ :: kj p u f 0 (List.getD p.funcs f []).length)
theorem zu {p : ac} (hg : a9 p) (u : List W32) (fm : W32) (f : Nat) : (oa p u fm f).length ≤ 194 := by
 have h1 := xg p u f (List.getD p.funcs f []).length 0
 have h2 := hg.le f
 unfold oa BR
 rw [List.length_append, List.length_cons]
 split
 ·rw [List.length_singleton]; omega
 ·rw [List.length_nil]; omega
def fB (p : ac) (u : List W32) (fm : W32) : Nat → Nat → List af
 | _, 0 => []
 | f, m + 1 => oa p u fm f ++ fB p u fm (f + 1) m
theorem xh {p : ac} (hg : a9 p) (u : List W32) (fm : W32) : ∀ (m f : Nat), (fB p u fm f m).length ≤ 194 * m
 | 0, f => Nat.zero_le _
 | m + 1, f => by
  have h1 := xh hg u fm m (f + 1)
  have h2 := zu hg u fm f
  rw [fB, List.length_append]
  omega
theorem mL {p : ac} {u : List W32} {fm : W32} {r : af} : ∀ {m f : Nat}, r ∈ fB p u fm f m ↔ ∃ k, f ≤ k ∧ k < f + m ∧ r ∈ oa p u fm k
 | 0, f => by
  rw [fB]
  exact ⟨(fun h => by cases h), fun ⟨k, h1, h2, _⟩ => by omega⟩
 | m + 1, f => by
  rw [fB, List.mem_append, mL]
  constructor
  ·rintro (h | ⟨k, h1, h2, h3⟩)
   ·exact ⟨f, Nat.le_refl _, by omega, h⟩
   ·exact ⟨k, by omega, by omega, h3⟩
  ·rintro ⟨k, h1, h2, h3⟩
   rcases Nat.eq_or_lt_of_le h1 with rfl | h4
   ·exact .inl h3
   ·exact .inr ⟨k, h4, by omega, h3⟩
theorem BS (p : ac) (hg : a9 p) (bs : List Int) (hb : iE p bs) (u : List W32) (hu : u.length = p.funcs.length) (x3 x4 x5 : Int) (fm : W32) : ∀ (m f : Nat) (out : List af), f + m = p.funcs.length → out.length + 194 * m ≤ 60000 → dX bs u out x3 x4 x5 p.funcs fm p.funcs (p.funcs.length : Int) (f : Int) = some (out ++ fB p u fm f m)
 | 0, f, out, h, ho => by
  rw [dX, iN (by omega)]
  simp [fB]
 | m + 1, f, out, h, ho => by
  have hn := hg.funcs
  have hle := hg.le f
  have hfl := zu hg u fm f
  have h0 := lb hg hb (f := f) (by omega) (i := 0) (Int.le_refl _) (by omega)
  rw [show (0 : Int).toNat = 0 from rfl] at h0
  have ih := BS p hg bs hb u hu x3 x4 x5 fm m (f + 1) (out ++ oa p u fm f) (by omega) (by rw [List.length_append]; omega)
  rw [dX, iP (by omega), iP (by omega), iP (by omega), bind_some (show cK fm (f : Int) = some (fm.getLsbD f) by rw [ns, if_pos (by omega), Int.toNat_natCast]), Int.toNat_natCast f, inc f (by omega)]
  unfold oa BR at ih
  by_cases hfm : fm.getLsbD f = true
  ·rw [if_pos hfm] at ih
   have q := tm p hg bs hb u hu x3 x4 x5 fm f (by omega) p.funcs (p.funcs.length : Int) (f : Int) (List.getD p.funcs f []).length 0 (out ++ [⟨(base p.funcs f : Int), -1, -1, 0#32, 0#32, 0#32⟩] ++ [⟨((base p.funcs f + 2 + 0 : Nat) : Int), (base p.funcs f : Int), -1, jy, 0#32, 0#32⟩]) (Nat.zero_add _) (by simp only [List.length_append, List.length_singleton]; omega)
   rw [show ((0 : Nat) : Int) = 0 from rfl] at q
   rw [if_pos hfm, bind_some (il hb (by omega)), bind_some (o5 _ _ _ _ _ _ _ _ (by omega)), bind_some h0, bind_some (il hb (by omega)), bind_some (o5 _ _ _ _ _ _ _ _ (by rw [List.length_append, List.length_singleton]; omega))]
   rw [bind_some q, show ∀ (E N : af) (t : List af), out ++ [E] ++ [N] ++ t = out ++ ([E] ++ N :: t) from fun E N t => by simp]
   refine ih.trans ?_
   rw [fB]
   unfold oa BR
   rw [if_pos hfm, List.append_assoc]
  ·rw [if_neg hfm] at ih
   have q := tm p hg bs hb u hu x3 x4 x5 fm f (by omega) p.funcs (p.funcs.length : Int) (f : Int) (List.getD p.funcs f []).length 0 (out ++ [⟨((base p.funcs f + 2 + 0 : Nat) : Int), (base p.funcs f : Int), -1, jy, 0#32, 0#32⟩]) (Nat.zero_add _) (by simp only [List.length_append, List.length_singleton]; omega)
   rw [show ((0 : Nat) : Int) = 0 from rfl] at q
   rw [if_neg hfm, bind_some h0, bind_some (il hb (by omega)), bind_some (o5 _ _ _ _ _ _ _ _ (by omega))]
   rw [bind_some q, show ∀ (N : af) (t : List af), out ++ [N] ++ t = out ++ ([] ++ N :: t) from fun N t => by simp]
   refine ih.trans ?_
   rw [fB]
   unfold oa BR
   rw [if_neg hfm, List.append_assoc]
structure uc (p : ac) (u : List W32) (fm : W32) : Prop where
 ul : u.length = p.funcs.length
 unl : gl p = some (0, u)
 beg : ∃ x, gR p = some x ∧ fm = x ||| one 0
theorem Gw (p : ac) (hg : a9 p) {u : List W32} {fm : W32} (h : uc p u fm) : mE p = some (0, fB p u fm 0 p.funcs.length) := by
 have hn := hg.funcs
 obtain ⟨bs, b1, b2⟩ := Aw p hg
 obtain ⟨x, x1, rfl⟩ := h.beg
 have q := BS p hg bs b2 u h.ul p.globals p.locks p.slots (x ||| one 0) p.funcs.length 0 [] (Nat.zero_add _) (by rw [List.length_nil]; omega)
 rw [show ((0 : Nat) : Int) = 0 from rfl, List.nil_append] at q
 unfold mE
 rw [bind_some h.unl, if_neg (show ¬ ((0 : Int) != 0) = true by decide), bind_some b1, bind_some x1, bind_some (fQ 0), bind_some q]
theorem Id (p : ac) (hg : a9 p) (hk : aI p = some (0, 0, 0)) : ∃ u fm, uc p u fm := by
 obtain ⟨u, u1, u2, _⟩ := CM p hg hk
 obtain ⟨x, x1, _⟩ := FR p hg
 exact ⟨u, x ||| one 0, u2, u1, x, x1, rfl⟩
structure Dd (p : ac) (l : List ab) (w : List W32) : Prop where
 len : w.length = base p.funcs p.funcs.length
 ent : ∀ f, f < p.funcs.length → gi w (base p.funcs f : Int) = (sec l f).entry
 exi : ∀ f, f < p.funcs.length → gi w ((base p.funcs f + 1 : Nat) : Int) = (sec l f).exit
 nod : ∀ f i, f < p.funcs.length → i < (List.getD p.funcs f []).length → gi w ((base p.funcs f + 2 + i : Nat) : Int) = hld l f i
theorem ob (w : List W32) : gi w (-1) = 0#32 := by
 unfold gi
 rw [if_neg (by omega)]
theorem rV {w : List W32} {to own also : Int} {keep th X : W32} (hX : ((gi w own &&& keep) ||| gi w also) ||| th = X) : bi ⟨to, own, also, keep, 0#32, th⟩ w = X := by
 unfold bi
 rw [if_pos (.inl rfl)]
 exact hX
theorem Ax (a : W32) : a &&& jy = a := by
 apply BitVec.eq_of_getLsbD_eq
 intro i hi
 rw [show jy = BitVec.allOnes 32 from rfl, BitVec.getLsbD_and, BitVec.getLsbD_allOnes]
 simp [hi]
theorem im (w : List W32) (own : Int) : ((gi w own &&& jy) ||| gi w (-1)) ||| 0#32 = gi w own := by
 rw [ob, Ax]; simp
theorem eS {p : ac} {f k : Nat} (hf : f < p.funcs.length) (hk : k < 2 + (List.getD p.funcs f []).length) : base p.funcs f + k < base p.funcs p.funcs.length := by
 have := o3 p.funcs hf
 omega
theorem lZ {p : ac} {l : List ab} {w : List W32} (hL : Dd p l w) {f : Nat} (hf : f < p.funcs.length) {js : List Int} (hj : ∀ y ∈ js, 0 ≤ y ∧ y < ((List.getD p.funcs f []).length : Int)) {own also : Int} {keep th X : W32} (hX : ((gi w own &&& keep) ||| gi w also) ||| th = X) :
  (∀ r ∈ xf p.funcs f js own also keep th, 0 ≤ r.to_ → r.to_ < (base p.funcs p.funcs.length : Int) → sub (gi w r.to_) (bi r w)) ↔ js.all (fun y => bD (hld l f y.toNat) X) = true := by
 rw [List.all_eq_true]
 constructor
 ·intro h y hy
  have hr := hj y hy
  have hb := eS (p := p) hf (k := 2 + y.toNat) (by omega)
  have := h _ (List.mem_map.2 ⟨y, hy, rfl⟩) (by show (0 : Int) ≤ ((_ : Nat) : Int); omega) (by show ((base p.funcs f + 2 + y.toNat : Nat) : Int) < _; omega)
  rw [rV hX] at this
  rw [show (gi w ((base p.funcs f + 2 + y.toNat : Nat) : Int)) = hld l f y.toNat from hL.nod f _ hf (by omega)] at this
  exact eK.2 this
 ·intro h r hr _ _
  obtain ⟨y, hy, rfl⟩ := List.mem_map.1 hr
  have hr := hj y hy
  rw [rV hX]
  show sub (gi w ((base p.funcs f + 2 + y.toNat : Nat) : Int)) X
  rw [hL.nod f _ hf (by omega)]
  exact eK.1 (h y hy)
theorem o6 {N : Nat} {w : List W32} {to own also : Int} {keep th X Y : W32} (h0 : 0 ≤ to) (h1 : to < (N : Int)) (hX : ((gi w own &&& keep) ||| gi w also) ||| th = X) (hY : gi w to = Y) : (0 ≤ to → to < (N : Int) → sub (gi w to) (bi ⟨to, own, also, keep, 0#32, th⟩ w)) ↔ bD Y X = true := by
 rw [rV hX, hY]
 exact ⟨fun h => eK.2 (h h0 h1), fun h _ _ => eK.1 h⟩
theorem Fs {p : ac} {l : List ab} {u : List W32} {f i : Nat} : jX p l u f i = 0 ↔ ((nde p f i).kind = 7 → bD (sec l (nde p f i).arg.toNat).entry (hld l f i) = true) ∧ ((nde p f i).kind = 9 → bD (sec l f).exit (hld l f i) = true) ∧ (succ (nde p f i)).all (fun y => bD (hld l f y.toNat) (bhd u l (nde p f i) (hld l f i))) = true :=
 ⟨CQ, fun ⟨h1, h2, h3⟩ => by rw [qN h1 h2, if_pos h3]⟩
theorem xj {p : ac} (hg : a9 p) {l : List ab} {w u : List W32} (hL : Dd p l w) {f i : Nat} (hf : f < p.funcs.length) (hi : i < (List.getD p.funcs f []).length) :
  (∀ r ∈ rU p u f i, 0 ≤ r.to_ → r.to_ < (base p.funcs p.funcs.length : Int) → sub (gi w r.to_) (bi r w)) ↔ jX p l u f i = 0 := by
 have hok := hg.node f i hf hi
 have hjr := oQ hok (by omega)
 have hown := hL.nod f i hf hi
 have hc : (nde p f i).kind = 7 → 0 ≤ (nde p f i).arg ∧ (nde p f i).arg < p.funcs.length := hok.call
 rw [Fs]
 unfold rU bhd
 simp only []
 by_cases h3 : (nde p f i).kind = 3
 ·rw [if_pos h3, if_pos h3, lZ hL hf hjr (X := hld l f i ||| one (nde p f i).arg) (by rw [ob, Ax, hown]; simp)]
  exact ⟨fun h => ⟨fun h7 => by omega, fun h9 => by omega, h⟩, fun h => h.2.2⟩
 rw [if_neg h3, if_neg h3]
 by_cases h4 : (nde p f i).kind = 4
 ·rw [if_pos h4, if_pos h4, lZ hL hf hjr (X := hld l f i &&& ~~~(one (nde p f i).arg)) (by rw [ob, hown]; simp)]
  exact ⟨fun h => ⟨fun h7 => by omega, fun h9 => by omega, h⟩, fun h => h.2.2⟩
 rw [if_neg h4, if_neg h4]
 by_cases h7 : (nde p f i).kind = 7
 ·have ha := hc h7
  have hb := eS (p := p) (f := (nde p f i).arg.toNat) (by omega) (k := 0) (by omega)
  rw [if_pos h7, if_pos h7, List.forall_mem_cons, o6 (by omega) (by omega) (im w _) (hL.ent _ (by omega)), hown, lZ hL hf hjr (X := (hld l f i &&& ~~~(List.getD u (nde p f i).arg.toNat 0#32)) ||| (sec l (nde p f i).arg.toNat).exit) (by rw [hown, hL.exi _ (by omega)]; simp)]
  exact ⟨fun h => ⟨fun _ => h.1, fun h9 => by omega, h.2⟩, fun h => ⟨h.1 h7, h.2.2⟩⟩
 rw [if_neg h7, if_neg h7]
 by_cases h9 : (nde p f i).kind = 9
 ·have hb := eS (p := p) hf (k := 1) (by omega)
  rw [if_pos h9, List.forall_mem_cons, o6 (by omega) (by omega) (im w _) (hL.exi _ hf), lZ hL hf hjr (X := hld l f i) (by rw [im, hown]), hown]
  exact ⟨fun h => ⟨fun h => absurd h h7, fun _ => h.1, h.2⟩, fun h => ⟨h.2.1 h9, h.2.2⟩⟩
 ·rw [if_neg h9, lZ hL hf hjr (X := hld l f i) (by rw [im, hown])]
  exact ⟨fun h => ⟨fun h => absurd h h7, fun h => absurd h h9, h⟩, fun h => h.2.2⟩
theorem De {a : W32} : bD a 0#32 = true ↔ a = 0#32 := by
 rw [eK]
 constructor
 ·intro h
  apply BitVec.eq_of_getLsbD_eq
  intro i hi
  cases hb : a.getLsbD i with
  | false => simp
  | true => have := h i hb; simp at this
 ·rintro rfl i h
  simp at h
theorem xk {p : ac} (hg : a9 p) {l : List ab} {w u : List W32} {fm : W32} (hL : Dd p l w) {f : Nat} (hf : f < p.funcs.length) :
  (∀ r ∈ oa p u fm f, 0 ≤ r.to_ → r.to_ < (base p.funcs p.funcs.length : Int) → sub (gi w r.to_) (bi r w)) ↔ ¬ (fm.getLsbD f = true ∧ (sec l f).entry ≠ 0#32) ∧ bD (hld l f 0) (sec l f).entry = true ∧ ∀ i, i < (List.getD p.funcs f []).length → jX p l u f i = 0 := by
 have hb0 := eS (p := p) hf (k := 0) (by omega)
 have hb2 := eS (p := p) hf (k := 2 + 0) (by have := hg.len f hf; omega)
 have hn : (∀ r ∈ kj p u f 0 (List.getD p.funcs f []).length, 0 ≤ r.to_ → r.to_ < (base p.funcs p.funcs.length : Int) → sub (gi w r.to_) (bi r w)) ↔ ∀ i, i < (List.getD p.funcs f []).length → jX p l u f i = 0 := by
  constructor
  ·intro h i hi
   exact (xj hg hL hf hi).1 fun r hr => h r (mK.2 ⟨i, Nat.zero_le _, by omega, hr⟩)
  ·intro h r hr
   obtain ⟨k, _, h2, h3⟩ := mK.1 hr
   exact (xj hg hL hf (by omega)).2 (h k (by omega)) r h3
 have he : (∀ r ∈ BR p fm f, 0 ≤ r.to_ → r.to_ < (base p.funcs p.funcs.length : Int) → sub (gi w r.to_) (bi r w)) ↔ ¬ (fm.getLsbD f = true ∧ (sec l f).entry ≠ 0#32) := by
  unfold BR
  by_cases hfm : fm.getLsbD f = true
  ·rw [if_pos hfm, List.forall_mem_singleton, o6 (X := 0#32) (by omega) (by omega) (by rw [ob]; simp) (hL.ent f hf), De]
   exact ⟨fun h h2 => h2.2 h, fun h => Classical.byContradiction fun h2 => h ⟨hfm, h2⟩⟩
  ·rw [if_neg hfm]
   exact ⟨fun _ h => hfm h.1, fun _ r hr => by cases hr⟩
 unfold oa
 rw [List.forall_mem_append, List.forall_mem_cons, he, hn, o6 (by omega) (by omega) (im w _) (hL.nod f 0 hf (hg.len f hf).1), hL.ent f hf]
theorem zv {p : ac} (hg : a9 p) {l : List ab} {w u : List W32} {fm : W32} (hL : Dd p l w) : jE (fB p u fm 0 p.funcs.length) (base p.funcs p.funcs.length) w ↔ CP p l u fm := by
 unfold jE CP
 constructor
 ·intro h f hf
  exact (xk hg hL hf).1 fun r hr => h r (mL.2 ⟨f, Nat.zero_le _, by omega, hr⟩)
 ·intro h r hr
  obtain ⟨k, _, h2, h3⟩ := mL.1 hr
  exact (xk hg hL (by omega)).2 (h k (by omega)) r h3
theorem l9 {w t : List W32} {j : Nat} (h : j < w.length) : gi (w ++ t) (j : Int) = gi w (j : Int) := by
 unfold gi
 rw [if_pos (by rw [List.length_append]; omega), if_pos (by omega), Int.toNat_natCast]
 simp [List.getD, List.getElem?_append_left h]
theorem BT {w t : List W32} {j : Nat} (h : j < t.length) : gi (w ++ t) ((w.length + j : Nat) : Int) = List.getD t j 0#32 := by
 unfold gi
 rw [if_pos (by rw [List.length_append]; omega), Int.toNat_natCast]
 unfold List.getD
 rw [List.getElem?_append_right (Nat.le_add_right _ _), Nat.add_sub_cancel_left]
theorem zw (p : ac) (l : List ab) (hs : Shp p l) : ∀ m, m ≤ p.funcs.length → ∃ w : List W32, w.length = base p.funcs m ∧ ∀ f, f < m → gi w (base p.funcs f : Int) = (sec l f).entry ∧ gi w ((base p.funcs f + 1 : Nat) : Int) = (sec l f).exit ∧ ∀ i, i < (List.getD p.funcs f []).length → gi w ((base p.funcs f + 2 + i : Nat) : Int) = hld l f i
 | 0, _ => ⟨[], rfl, fun f h => by omega⟩
 | m + 1, h => by
  obtain ⟨w, w1, w2⟩ := zw p l hs m (by omega)
  have hh := (hs.2 m (by omega)).1
  refine ⟨w ++ ((sec l m).entry :: (sec l m).exit :: (sec l m).held), by rw [List.length_append, List.length_cons, List.length_cons, base, w1, hh]; omega, fun f hf => ?_⟩
  by_cases e : f = m
  ·subst e
   have g := fun j (hj : j < ((sec l f).entry :: (sec l f).exit :: (sec l f).held).length) => BT (w := w) hj
   simp only [List.length_cons] at g
   rw [w1] at g
   refine ⟨?_, ?_, fun i hi => ?_⟩
   ·have := g 0 (by omega)
    rw [Nat.add_zero] at this
    rw [this]; rfl
   ·rw [g 1 (by omega)]; rfl
   ·rw [show base p.funcs f + 2 + i = base p.funcs f + (i + 2) by omega, g (i + 2) (by omega)]; rfl
  ·have hb := o3 p.funcs (show f < m by omega)
   obtain ⟨h1, h2, h3⟩ := w2 f (by omega)
   exact ⟨by rw [l9 (by omega)]; exact h1, by rw [l9 (by omega)]; exact h2, fun i hi => by rw [l9 (by omega)]; exact h3 i hi⟩
theorem HK (p : ac) (l : List ab) (hs : Shp p l) : ∃ w, Dd p l w := by
 obtain ⟨w, w1, w2⟩ := zw p l hs p.funcs.length (Nat.le_refl _)
 exact ⟨w, w1, fun f hf => (w2 f hf).1, fun f hf => (w2 f hf).2.1, fun f i hf hi => (w2 f hf).2.2 i hi⟩
theorem o7 {v : List W32} {j : Nat} (h : j < v.length) : List.getD v j 0#32 = gi v (j : Int) := by
 unfold gi
 rw [if_pos (by omega), Int.toNat_natCast]
theorem BU (p : ac) (hg : a9 p) (bs : List Int) (hb : iE p bs) (v : List W32) (hv : v.length = base p.funcs p.funcs.length) (x2 : List ab) (x4 : List W32) (x5 x6 x7 x8 : W32) (f : Nat) (hf : f < p.funcs.length) (x10 : FS) (x11 x12 : Int) : ∀ (m i : Nat) (h : List W32), i + m = (List.getD p.funcs f []).length → h.length = i → (∀ k, k < i → List.getD h k 0#32 = gi v ((base p.funcs f + 2 + k : Nat) : Int)) → ∃ h', fb bs v x2 h x4 x5 x6 x7 x8 (f : Int) x10 x11 x12 ((List.getD p.funcs f []).length : Int) (i : Int) = some h' ∧ h'.length = (List.getD p.funcs f []).length ∧ ∀ k, k < (List.getD p.funcs f []).length → List.getD h' k 0#32 = gi v ((base p.funcs f + 2 + k : Nat) : Int)
 | 0, i, h, hi, hl, hget => by
  rw [fb, iN (by omega)]
  exact ⟨h, rfl, by omega, fun k hk => hget k (by omega)⟩
 | m + 1, i, h, hi, hl, hget => by
  have hle := hg.le f
  have hbl := eS (p := p) hf (k := 2 + i) (by omega)
  have hn := lb hg hb hf (i := (i : Int)) (by omega) (by omega)
  rw [Int.toNat_natCast] at hn
  rw [fb, iP (by omega), bind_some hn, iP (by omega), iP (by omega), if_pos (Nat.ble_eq_true_of_le (by simp only [List.length_singleton, aK]; omega)), inc i (by omega), Int.toNat_natCast]
  refine BU p hg bs hb v hv x2 x4 x5 x6 x7 x8 f hf x10 x11 x12 m (i + 1) _ (by omega) (by rw [List.length_append, List.length_singleton]; omega) fun k hk => ?_
  rw [iF]
  split
  ·rename_i e
   subst e
   rw [hl]
   exact o7 (by omega)
  ·exact hget k (by omega)
structure BV (p : ac) (v : List W32) (f : Nat) (s : ab) : Prop where
 ent : s.entry = gi v (base p.funcs f : Int)
 exi : s.exit = gi v ((base p.funcs f + 1 : Nat) : Int)
 hl : s.held.length = (List.getD p.funcs f []).length
 nod : ∀ i, i < (List.getD p.funcs f []).length → List.getD s.held i 0#32 = gi v ((base p.funcs f + 2 + i : Nat) : Int)
 lv : s.live = List.replicate (List.getD p.funcs f []).length 0#32
 le : s.liveEntry = 0#32
 lx : s.liveExit = 0#32
theorem Ep (p : ac) (hg : a9 p) (bs : List Int) (hb : iE p bs) (v : List W32) (hv : v.length = base p.funcs p.funcs.length) : ∀ (m f : Nat) (t : List ab), f + m = p.funcs.length → t.length = f → (∀ g, g < f → BV p v g (sec t g)) → ∃ t', fC bs v t p.funcs (p.funcs.length : Int) (f : Int) = some t' ∧ t'.length = p.funcs.length ∧ ∀ g, g < p.funcs.length → BV p v g (sec t' g)
 | 0, f, t, h, hl, hget => by
  rw [fC, iN (by omega)]
  exact ⟨t, rfl, by omega, fun g hg => hget g (by omega)⟩
 | m + 1, f, t, h, hl, hget => by
  have hn := hg.funcs
  have hle := hg.le f
  have hb0 := eS (p := p) (f := f) (by omega) (k := 0) (by omega)
  have hb1 := eS (p := p) (f := f) (by omega) (k := 1) (by omega)
  obtain ⟨hd, q1, q2, q3⟩ := BU p hg bs hb v hv t (List.replicate (List.getD p.funcs f []).length 0#32) (List.getD v (base p.funcs f) 0#32) (List.getD v (base p.funcs f + 1) 0#32) 0#32 0#32 f (by omega) p.funcs (p.funcs.length : Int) (f : Int) (List.getD p.funcs f []).length 0 [] (Nat.zero_add _) rfl (fun k hk => by omega)
  rw [show ((0 : Nat) : Int) = 0 from rfl] at q1
  rw [fC, iP (by omega), iP (by omega), iP (by omega), bind_some (il hb (by omega)), iP (by omega), iP (by omega), bind_some (o4 hg hb (by omega)), iP (by omega), iP (by omega), Int.toNat_natCast f, iP (by omega), if_pos (decide_eq_true (by simp only [aK]; omega)), Int.toNat_natCast, Int.toNat_natCast, Int.toNat_natCast, bind_some q1, if_pos (Nat.ble_eq_true_of_le (by simp only [List.length_singleton, aK]; omega)), inc f (by omega)]
  refine Ep p hg bs hb v hv m (f + 1) _ (by omega) (by rw [List.length_append, List.length_singleton]; omega) fun g hgf => ?_
  unfold sec
  rw [iF]
  split
  ·rename_i e
   subst e
   rw [hl]
   exact ⟨o7 (by omega), o7 (by omega), q2, q3, rfl, rfl, rfl⟩
  ·exact hget g (by omega)
theorem Df {p : ac} {v : List W32} {t : List ab} (hv : v.length = base p.funcs p.funcs.length) (hl : t.length = p.funcs.length) (h : ∀ g, g < p.funcs.length → BV p v g (sec t g)) : Dd p t v ∧ Shp p t :=
 ⟨⟨hv, fun f hf => (h f hf).ent.symm, fun f hf => (h f hf).exi.symm, fun f i hf hi => ((h f hf).nod i hi).symm⟩, hl, fun f hf => ⟨(h f hf).hl, by rw [(h f hf).lv, List.length_replicate]⟩⟩
def uK (p : ac) : W32 := BitVec.setWidth 32 (((1#64) <<< p.locks.toNat) - 1#64)
theorem IC (p : ac) (h0 : 0 ≤ p.locks) (h1 : p.locks ≤ 32) : gz p.locks = some (uK p) := by
 unfold gz uK
 rw [if_neg (show ¬ 32 < p.locks by omega), if_neg (show ¬ 0 > p.locks by omega), iP (by omega)]
theorem Er (p : ac) (hg : a9 p) {u : List W32} {fm : W32} (h : uc p u fm) : ∃ v t, jU p = some (0, t) ∧ Gfp (fB p u fm 0 p.funcs.length) (List.replicate (base p.funcs p.funcs.length) (uK p)) v ∧ v.length = base p.funcs p.funcs.length ∧ t.length = p.funcs.length ∧ ∀ g, g < p.funcs.length → BV p v g (sec t g) := by
 have hn := hg.funcs
 have hlk := hg.locks
 have hbl := o2 hg p.funcs.length
 have hrl := xh hg u fm p.funcs.length 0
 obtain ⟨bs, b1, b2⟩ := Aw p hg
 obtain ⟨v, v1, v2⟩ := BP (base p.funcs p.funcs.length : Int) (uK p) (fB p u fm 0 p.funcs.length) (by omega)
 rw [if_pos (by omega), Int.toNat_natCast] at v2
 have hv : v.length = base p.funcs p.funcs.length := by rw [v2.len, List.length_replicate]
 obtain ⟨t, t1, t2, t3⟩ := Ep p hg bs b2 v hv p.funcs.length 0 [] (Nat.zero_add _) rfl (fun g h => by omega)
 rw [show ((0 : Nat) : Int) = 0 from rfl] at t1
 unfold jU
 rw [bind_some (Gw p hg h), if_neg (show ¬ ((0 : Int) != 0) = true by decide), bind_some b1, bind_some (IC p hlk.1 (by omega)), bind_some v1, bind_some t1]
 exact ⟨v, t, rfl, v2, hv, t2, t3⟩
theorem ID {n : Nat} {x : W32} {j : Int} (h0 : 0 ≤ j) (h1 : j < (n : Int)) : gi (List.replicate n x) j = x := by
 unfold gi
 rw [if_pos ⟨h0, by rw [List.length_replicate]; exact h1⟩]
 simp [List.getD, List.getElem?_replicate, show j.toNat < n by omega]
theorem kl (w : List W32) (m : W32) (j : Int) : gi (w.map (fun x => x &&& m)) j = gi w j &&& m := by
 unfold gi
 rw [List.length_map]
 split
 ·rename_i h
  have : j.toNat < w.length := by omega
  simp [List.getD, this]
 ·simp
theorem Ft {l : List af} {n : Nat} {w : List W32} (m : W32) (hif : ∀ r ∈ l, r.if_ = 0#32) (h : jE l n w) : jE l n (w.map (fun x => x &&& m)) := by
 intro r hr h0 h1
 have h2 := h r hr h0 h1
 rw [kl]
 unfold bi at h2 ⊢
 rw [if_pos (.inl (hif r hr))] at h2 ⊢
 rw [kl, kl]
 intro i hi
 rw [BitVec.getLsbD_and, Bool.and_eq_true] at hi
 have h3 := h2 i hi.1
 simp only [BitVec.getLsbD_or, BitVec.getLsbD_and, Bool.or_eq_true, Bool.and_eq_true] at h3 ⊢
 rcases h3 with (⟨a, b⟩ | a) | a
 ·exact .inl (.inl ⟨⟨a, hi.2⟩, b⟩)
 ·exact .inl (.inr ⟨a, hi.2⟩)
 ·exact .inr a
theorem rW {fs : FS} {f : Nat} {js : List Int} {own also : Int} {keep th : W32} : ∀ r ∈ xf fs f js own also keep th, r.if_ = 0#32 := fun r hr => by
 obtain ⟨y, _, rfl⟩ := List.mem_map.1 hr
 rfl
theorem Fu {p : ac} {u : List W32} {fm : W32} {m f : Nat} : ∀ r ∈ fB p u fm f m, r.if_ = 0#32 := by
 intro r hr
 obtain ⟨k, _, _, h3⟩ := mL.1 hr
 unfold oa BR at h3
 rcases List.mem_append.1 h3 with h | h
 ·split at h
  ·rw [List.mem_singleton] at h; subst h; rfl
  ·cases h
 ·rcases List.mem_cons.1 h with h | h
  ·subst h; rfl
  ·obtain ⟨i, _, _, h5⟩ := mK.1 h
   unfold rU at h5
   simp only [] at h5
   split at h5
   ·exact rW r h5
   ·split at h5
    ·exact rW r h5
    ·split at h5
     ·rcases List.mem_cons.1 h5 with h6 | h6
      ·subst h6; rfl
      ·exact rW r h6
     ·split at h5
      ·rcases List.mem_cons.1 h5 with h6 | h6
       ·subst h6; rfl
       ·exact rW r h6
      ·exact rW r h5
theorem HL {p : ac} {u : List W32} {fm : W32} {v w : List W32} (hv : Gfp (fB p u fm 0 p.funcs.length) (List.replicate (base p.funcs p.funcs.length) (uK p)) v) (hwl : w.length = base p.funcs p.funcs.length) (hw : jE (fB p u fm 0 p.funcs.length) (base p.funcs p.funcs.length) w) (j : Int) : sub (uK p &&& gi w j) (gi v j) := by
 have h1 := Ft (uK p) Fu hw
 have h2 := hv.best (w.map (fun x => x &&& uK p)) (by rw [List.length_replicate]; exact h1) (fun j => by
  rw [kl]
  by_cases hj : 0 ≤ j ∧ j < (base p.funcs p.funcs.length : Int)
  ·rw [ID hj.1 hj.2]
   exact jN _ _
  ·have : gi w j = 0#32 := by unfold gi; rw [if_neg (by rw [hwl]; exact hj)]
   rw [this]
   intro i hi
   simp at hi) j
 rw [kl] at h2
 intro i hi
 refine h2 i ?_
 simp only [BitVec.getLsbD_and, Bool.and_eq_true] at hi ⊢
 exact ⟨hi.2, hi.1⟩
theorem xl (p : ac) (l : List ab) (hl : l.length = p.funcs.length) (hn : p.funcs.length ≤ 65536) : ∀ (m i : Nat), i + m = l.length → ∃ b, ci p.globals p.locks p.slots p.funcs l (l.length : Int) (i : Int) = some (if b = true then .x1 else .x0 false) ∧ (b = true ↔ ∀ f, i ≤ f → f < p.funcs.length → (sec l f).held.length = (List.getD p.funcs f []).length ∧ (sec l f).live.length = (List.getD p.funcs f []).length)
 | 0, i, h => by
  rw [ci, iN (by omega)]
  exact ⟨true, rfl, ⟨fun _ f h1 h2 => by omega, fun _ => rfl⟩⟩
 | m + 1, i, h => by
  rw [ci, iP (by omega), iP (by omega), iP (by omega), iP (by omega), Int.toNat_natCast i, inc i (by omega)]
  by_cases h1 : (List.getD l i aa).held.length = (List.getD p.funcs i []).length
  ·by_cases h2 : (List.getD l i aa).live.length = (List.getD p.funcs i []).length
   ·rw [if_neg (neF (by omega)), if_neg (neF (by omega))]
    obtain ⟨b, q1, q3⟩ := xl p l hl hn m (i + 1) (by omega)
    refine ⟨b, q1, ?_⟩
    rw [q3]
    constructor
    ·intro h3 f h4 h5
     rcases Nat.eq_or_lt_of_le h4 with rfl | h6
     ·exact ⟨h1, h2⟩
     ·exact h3 f h6 h5
    ·exact fun h3 f h4 h5 => h3 f (by omega) h5
   ·rw [if_neg (neF (by omega)), if_pos (neT (by omega))]
    exact ⟨false, rfl, ⟨(fun h => by cases h), fun h => absurd (h i (Nat.le_refl _) (by omega)).2 h2⟩⟩
  ·rw [if_pos (neT (by omega))]
   exact ⟨false, rfl, ⟨(fun h => by cases h), fun h => absurd (h i (Nat.le_refl _) (by omega)).1 h1⟩⟩
theorem mM (p : ac) (l : List ab) (hn : p.funcs.length ≤ 65536) : ∃ b, dD p l = some b ∧ (b = true ↔ Shp p l) := by
 unfold dD Shp
 by_cases hl : l.length = p.funcs.length
 ·rw [if_neg (neF (by rw [hl]))]
  obtain ⟨b, q1, q3⟩ := xl p l hl hn l.length 0 (by omega)
  rw [show ((0 : Nat) : Int) = 0 from rfl] at q1
  rw [bind_some q1]
  refine ⟨b, ?_, ?_⟩
  ·cases b <;> rfl
  ·rw [q3]
   exact ⟨fun h => ⟨hl, fun f hf => h f (Nat.zero_le _) hf⟩, fun h f _ hf => h.2 f hf⟩
 ·rw [if_pos (neT (by omega))]
  exact ⟨false, rfl, ⟨(fun h => by cases h), fun h => absurd h.1 hl⟩⟩
theorem tn (p : ac) (hg : a9 p) {u : List W32} {fm : W32} (h : uc p u fm) : (∀ l, Shp p l → ez p l = some (pW p l u fm, 0)) ∧ ∀ l, ¬ Shp p l → ez p l = some (⟨-1, -1, 1⟩, 0) := by
 have hn := hg.funcs.2
 obtain ⟨x, x1, rfl⟩ := h.beg
 refine ⟨fun l hs => ?_, fun l hs => ?_⟩
 ·obtain ⟨b, b1, b2⟩ := mM p l (by omega)
  have hb := b2.2 hs
  have h8 := DU p hg l hs u h.ul (x ||| one 0) l.length 0 (by omega)
  rw [show ((0 : Nat) : Int) = 0 from rfl] at h8
  unfold ez
  rw [bind_some h.unl, if_neg (show ¬ ((0 : Int) != 0) = true by decide), bind_some b1, hb, if_neg (by decide), bind_some x1, bind_some (fQ 0), bind_some h8]
  unfold pW
  cases bG (qP p l u (x ||| one 0)) 0 l.length with
  | some y => rfl
  | none => rfl
 ·obtain ⟨b, b1, b2⟩ := mM p l (by omega)
  have hb : b = false := by
   cases b with
   | false => rfl
   | true => exact absurd (b2.1 rfl) hs
  unfold ez
  rw [bind_some h.unl, if_neg (show ¬ ((0 : Int) != 0) = true by decide), bind_some b1, hb, if_pos (by decide)]
def tp (fs : FS) (f : Nat) (js : List Int) (own also : Int) (keep if_ then_ : W32) : List af := js.map fun y => ⟨((base fs f + 2 + y.toNat : Nat) : Int), own, also, keep, if_, then_⟩
def oc (p : ac) (bg : W32) (f i : Nat) : List af :=
 let own : Int := ((base p.funcs f + 2 + i : Nat) : Int)
 let js := succ (nde p f i)
 if (nde p f i).kind = 6 then tp p.funcs f js own (-1) (~~~(one (nde p f i).arg)) 0#32 0#32
 else if (nde p f i).kind = 7 then ⟨(base p.funcs (nde p f i).arg.toNat : Int), own, -1, jy, 0#32, 0#32⟩ :: tp p.funcs f js ((base p.funcs (nde p f i).arg.toNat + 1 : Nat) : Int) (-1) jy 0#32 0#32
 else if (nde p f i).kind = 9 then ⟨((base p.funcs f + 1 : Nat) : Int), own, -1, jy, 0#32, 0#32⟩ :: tp p.funcs f js own (-1) jy 0#32 0#32
 else if (nde p f i).kind = 5 then (⟨(base p.funcs (nde p f i).arg.toNat : Int), -1, -1, 0#32, 0#32, one p.slots⟩ :: tp p.funcs f js own (-1) 0#32 (one (nde p f i).alt) (one p.slots)) ++ tp p.funcs f js own (-1) jy 0#32 (if eC bg (nde p f i).arg = true then one (nde p f i).alt ||| one p.slots else one (nde p f i).alt)
 else tp p.funcs f js own (-1) jy 0#32 0#32
theorem BW (fs : FS) (f : Nat) (x : ad) (own also : Int) (keep if_ then_ : W32) : (tp fs f (succ x) own also keep if_ then_).length ≤ 2 := by
 unfold tp
 rw [List.length_map]
 exact lL x
theorem xm (p : ac) (bg : W32) (f i : Nat) : (oc p bg f i).length ≤ 5 := by
 have h := BW p.funcs f (nde p f i)
 have h' : ∀ own also keep if_ then_, (tp p.funcs f (succ (nde p f i)) own also keep if_ then_).length ≤ 5 := fun a b c d e => Nat.le_trans (h a b c d e) (by omega)
 unfold oc
 simp only []
 split
 ·exact h' _ _ _ _ _
 ·split
  ·rw [List.length_cons]; exact Nat.le_trans (Nat.succ_le_succ (h _ _ _ _ _)) (by omega)
  ·split
   ·rw [List.length_cons]; exact Nat.le_trans (Nat.succ_le_succ (h _ _ _ _ _)) (by omega)
   ·split
    ·rw [List.length_append, List.length_cons]
     have h1 := h ((base p.funcs f + 2 + i : Nat) : Int) (-1) 0#32 (one (nde p f i).alt) (one p.slots)
     have h2 := h ((base p.funcs f + 2 + i : Nat) : Int) (-1) jy 0#32 (if eC bg (nde p f i).arg = true then one (nde p f i).alt ||| one p.slots else one (nde p f i).alt)
     omega
    ·exact h' _ _ _ _ _
theorem oe (l1 : List Int) (l3 : List af) (b0 b01 b02 : Int) (b03 : FS) (b04 b05 : W32) (r : af) (h : l3.length ≤ 65536) : cT l1 l3 b0 b01 b02 b03 b04 b05 r = some (l3 ++ [r]) := by
 unfold cT
 rw [if_pos (Nat.ble_eq_true_of_le (by simp only [List.length_singleton, aK]; omega))]
theorem Es (p : ac) (hg : a9 p) (bs : List Int) (hb : iE p bs) (js : List Int) (hj : js.length ≤ 2) (hjr : ∀ y ∈ js, 0 ≤ y ∧ y ≤ 65536) (x4 x5 x6 : Int) (x7 : FS) (x8 x9 : W32) (own also : Int) (keep if_ th : W32) (f : Nat) (hf : f < p.funcs.length) : ∀ (m k : Nat) (out : List af) (to : Int), k + m = js.length → out.length + m ≤ 65536 → cw bs out js x4 x5 x6 x7 x8 x9 to own also keep if_ th (f : Int) (js.length : Int) (k : Int) = some (out ++ tp p.funcs f (js.drop k) own also keep if_ th)
 | 0, k, out, to, h, ho => by
  rw [cw, iN (by omega), List.drop_eq_nil_of_le (by omega)]
  simp [tp]
 | m + 1, k, out, to, h, ho => by
  have hlt : k < js.length := by omega
  have hg1 : List.getD js k 0 = js[k] := by simp [List.getD, hlt]
  have hr := hjr _ (List.getElem_mem hlt)
  rw [cw, iP (by omega), iP (by omega), iP (by omega), Int.toNat_natCast, hg1, bind_some (lb hg hb hf hr.1 hr.2), bind_some (oe _ _ _ _ _ _ _ _ _ (by omega)), inc k (by omega), Es p hg bs hb js hj hjr x4 x5 x6 x7 x8 x9 own also keep if_ th f hf m (k + 1) _ _ (by omega) (by rw [List.length_append, List.length_singleton]; omega), List.append_assoc, List.singleton_append, List.drop_eq_getElem_cons hlt]
  rfl
theorem mN (p : ac) (hg : a9 p) (bs : List Int) (hb : iE p bs) (x : ad) (hjr : ∀ y ∈ succ x, 0 ≤ y ∧ y ≤ 65536) (x4 x5 x6 : Int) (x7 : FS) (x8 x9 : W32) (to own also : Int) (keep if_ th : W32) (f : Nat) (hf : f < p.funcs.length) (out : List af) (ho : out.length + 2 ≤ 65536) : bR bs out x4 x5 x6 x7 x8 x9 (f : Int) x ⟨to, own, also, keep, if_, th⟩ = some (out ++ tp p.funcs f (succ x) own also keep if_ th) := by
 have h1 := lL x
 have q := Es p hg bs hb (succ x) h1 hjr x4 x5 x6 x7 x8 x9 own also keep if_ th f hf _ 0 out to (Nat.zero_add _) (by omega)
 rw [show ((0 : Nat) : Int) = 0 from rfl, List.drop_zero] at q
 unfold bR
 rw [bind_some (f5 x)]
 simp only []
 rw [bind_some q]
theorem BX (p : ac) (hg : a9 p) (bs : List Int) (hb : iE p bs) (bg : W32) (out : List af) (ho : out.length + 5 ≤ 65536) (b0 b01 b02 : Int) (f i : Nat) (hf : f < p.funcs.length) (hi : i < (List.getD p.funcs f []).length) : gF bs out b0 b01 b02 p.funcs (one p.slots) bg (f : Int) (i : Int) = some (out ++ oc p bg f i) := by
 have hok := hg.node f i hf hi
 have hle := hg.le f
 have hjr := oQ hok (by omega)
 have hjr' : ∀ y ∈ succ (nde p f i), 0 ≤ y ∧ y ≤ 65536 := fun y hy => by have := hjr y hy; omega
 have hsl := BW p.funcs f (nde p f i)
 have hc := hok.call
 have hsp := hok.spawn
 have e1 : ∀ (r : af), (out ++ [r]).length = out.length + 1 := fun r => by rw [List.length_append, List.length_singleton]
 unfold gF
 rw [iP (by omega), iP (by omega), iP (by omega), Int.toNat_natCast f, iP (by omega), Int.toNat_natCast i, bind_some (lb hg hb hf (i := (i : Int)) (by omega) (by omega)), Int.toNat_natCast i]
 unfold oc
 simp only []
 by_cases h6 : (nde p f i).kind = 6
 ·rw [if_pos (eqT h6), if_pos h6, bind_some (fQ _), bind_some (mN p hg bs hb (nde p f i) hjr' _ _ _ _ _ _ _ _ _ _ _ _ f hf _ (by omega))]
 rw [if_neg (eqF h6), if_neg h6]
 by_cases h7 : (nde p f i).kind = 7
 ·have ha := hc h7
  obtain ⟨a, ha2⟩ : ∃ a : Nat, (List.getD (List.getD p.funcs f []) i ae).arg = (a : Int) := ⟨(List.getD (List.getD p.funcs f []) i ae).arg.toNat, by omega⟩
  rw [ha2] at ha
  rw [if_pos (eqT h7), if_pos h7, ha2, Int.toNat_natCast a, bind_some (il hb (by omega)), bind_some (oe _ _ _ _ _ _ _ _ _ (by omega)), bind_some (o4 hg hb (by omega)), bind_some (mN p hg bs hb (nde p f i) hjr' _ _ _ _ _ _ _ _ _ _ _ _ f hf _ (by rw [e1]; omega)), List.append_assoc, List.singleton_append]
 rw [if_neg (eqF h7), if_neg h7]
 by_cases h9 : (nde p f i).kind = 9
 ·rw [if_pos (eqT h9), if_pos h9, bind_some (o4 hg hb hf), bind_some (oe _ _ _ _ _ _ _ _ _ (by omega)), bind_some (mN p hg bs hb (nde p f i) hjr' _ _ _ _ _ _ _ _ _ _ _ _ f hf _ (by rw [e1]; omega)), List.append_assoc, List.singleton_append]
 rw [if_neg (eqF h9), if_neg h9]
 by_cases h5 : (nde p f i).kind = 5
 ·have ha := hsp h5
  obtain ⟨a, ha2⟩ : ∃ a : Nat, (List.getD (List.getD p.funcs f []) i ae).arg = (a : Int) := ⟨(List.getD (List.getD p.funcs f []) i ae).arg.toNat, by omega⟩
  rw [ha2] at ha
  have hl2 := hsl ((base p.funcs f + 2 + i : Nat) : Int) (-1) 0#32 (one (List.getD (List.getD p.funcs f []) i ae).alt) (one p.slots)
  rw [if_pos (eqT h5), if_pos h5, ha2, Int.toNat_natCast a, bind_some (il hb (by omega)), bind_some (oe _ _ _ _ _ _ _ _ _ (by omega)), bind_some (fQ _), bind_some (mN p hg bs hb (nde p f i) hjr' _ _ _ _ _ _ _ _ _ _ _ _ f hf _ (by rw [e1]; omega)), bind_some (fQ _), bind_some (show cK bg (a : Int) = some (eC bg (a : Int)) from ns _ _)]
  have e2 : ∀ (r : af) (s t : List af), out ++ [r] ++ s ++ t = out ++ (r :: s ++ t) := fun r s t => by simp
  by_cases hb5 : eC bg (a : Int) = true
  ·rw [if_pos hb5, if_pos hb5, bind_some (mN p hg bs hb (nde p f i) hjr' _ _ _ _ _ _ _ _ _ _ _ _ f hf _ (by rw [List.length_append, e1]; omega)), e2]
  ·rw [if_neg hb5, if_neg hb5, bind_some (mN p hg bs hb (nde p f i) hjr' _ _ _ _ _ _ _ _ _ _ _ _ f hf _ (by rw [List.length_append, e1]; omega)), e2]
 ·rw [if_neg (eqF h5), if_neg h5, bind_some (mN p hg bs hb (nde p f i) hjr' _ _ _ _ _ _ _ _ _ _ _ _ f hf _ (by omega))]
def io (p : ac) (bg : W32) (f : Nat) : Nat → Nat → List af
 | _, 0 => []
 | i, m + 1 => oc p bg f i ++ io p bg f (i + 1) m
theorem ud (p : ac) (bg : W32) (f : Nat) : ∀ (m i : Nat), (io p bg f i m).length ≤ 5 * m
 | 0, i => Nat.zero_le _
 | m + 1, i => by
  have h1 := ud p bg f m (i + 1)
  have h2 := xm p bg f i
  rw [io, List.length_append]
  omega
theorem oh {p : ac} {bg : W32} {f : Nat} {r : af} : ∀ {m i : Nat}, r ∈ io p bg f i m ↔ ∃ k, i ≤ k ∧ k < i + m ∧ r ∈ oc p bg f k
 | 0, i => by
  rw [io]
  exact ⟨(fun h => by cases h), fun ⟨k, h1, h2, _⟩ => by omega⟩
 | m + 1, i => by
  rw [io, List.mem_append, oh]
  constructor
  ·rintro (h | ⟨k, h1, h2, h3⟩)
   ·exact ⟨i, Nat.le_refl _, by omega, h⟩
   ·exact ⟨k, by omega, by omega, h3⟩
  ·rintro ⟨k, h1, h2, h3⟩
   rcases Nat.eq_or_lt_of_le h1 with rfl | h4
   ·exact .inl h3
   ·exact .inr ⟨k, h4, by omega, h3⟩
theorem xn (p : ac) (hg : a9 p) (bs : List Int) (hb : iE p bs) (bg : W32) (x3 x4 x5 : Int) (f : Nat) (hf : f < p.funcs.length) (x9 : FS) (x10 x11 : Int) : ∀ (m i : Nat) (out : List af), i + m = (List.getD p.funcs f []).length → out.length + 5 * m ≤ 65000 → ey bs out x3 x4 x5 p.funcs (one p.slots) bg (f : Int) x9 x10 x11 ((List.getD p.funcs f []).length : Int) (i : Int) = some (out ++ io p bg f i m)
 | 0, i, out, h, ho => by
  rw [ey, iN (by omega)]
  simp [io]
 | m + 1, i, out, h, ho => by
  have h1 := xm p bg f i
  have hle := hg.le f
  rw [ey, iP (by omega), bind_some (BX p hg bs hb bg out (by omega) x3 x4 x5 f i hf (by omega)), inc i (by omega), xn p hg bs hb bg x3 x4 x5 f hf x9 x10 x11 m (i + 1) _ (by omega) (by rw [List.length_append]; omega), io, List.append_assoc]
def mO (p : ac) (bg : W32) (f : Nat) : List af := ⟨((base p.funcs f + 2 + 0 : Nat) : Int), (base p.funcs f : Int), -1, jy, 0#32, 0#32⟩ :: io p bg f 0 (List.getD p.funcs f []).length
theorem xo {p : ac} (hg : a9 p) (bg : W32) (f : Nat) : (mO p bg f).length ≤ 322 := by
 have h1 := ud p bg f (List.getD p.funcs f []).length 0
 have h2 := hg.le f
 unfold mO
 rw [List.length_cons]
 omega
def eT (p : ac) (bg : W32) : Nat → Nat → List af
 | _, 0 => []
 | f, m + 1 => mO p bg f ++ eT p bg (f + 1) m
theorem ue {p : ac} (hg : a9 p) (bg : W32) : ∀ (m f : Nat), (eT p bg f m).length ≤ 322 * m
 | 0, f => Nat.zero_le _
 | m + 1, f => by
  have h1 := ue hg bg m (f + 1)
  have h2 := xo hg bg f
  rw [eT, List.length_append]
  omega
theorem oi {p : ac} {bg : W32} {r : af} : ∀ {m f : Nat}, r ∈ eT p bg f m ↔ ∃ k, f ≤ k ∧ k < f + m ∧ r ∈ mO p bg k
 | 0, f => by
  rw [eT]
  exact ⟨(fun h => by cases h), fun ⟨k, h1, h2, _⟩ => by omega⟩
 | m + 1, f => by
  rw [eT, List.mem_append, oi]
  constructor
  ·rintro (h | ⟨k, h1, h2, h3⟩)
   ·exact ⟨f, Nat.le_refl _, by omega, h⟩
   ·exact ⟨k, by omega, by omega, h3⟩
  ·rintro ⟨k, h1, h2, h3⟩
   rcases Nat.eq_or_lt_of_le h1 with rfl | h4
   ·exact .inl h3
   ·exact .inr ⟨k, h4, by omega, h3⟩
theorem zx (p : ac) (hg : a9 p) (bs : List Int) (hb : iE p bs) (bg : W32) (x3 x4 x5 : Int) : ∀ (m f : Nat) (out : List af), f + m = p.funcs.length → out.length + 322 * m ≤ 60000 → fc bs out x3 x4 x5 p.funcs (one p.slots) bg p.funcs (p.funcs.length : Int) (f : Int) = some (out ++ eT p bg f m)
 | 0, f, out, h, ho => by
  rw [fc, iN (by omega)]
  simp [eT]
 | m + 1, f, out, h, ho => by
  have hn := hg.funcs
  have hle := hg.le f
  have hfl := xo hg bg f
  have h0 := lb hg hb (f := f) (by omega) (i := 0) (Int.le_refl _) (by omega)
  rw [show (0 : Int).toNat = 0 from rfl] at h0
  have ih := zx p hg bs hb bg x3 x4 x5 m (f + 1) (out ++ mO p bg f) (by omega) (by rw [List.length_append]; omega)
  rw [fc, iP (by omega), iP (by omega), iP (by omega), Int.toNat_natCast f, inc f (by omega)]
  unfold mO at ih
  have q := xn p hg bs hb bg x3 x4 x5 f (by omega) p.funcs (p.funcs.length : Int) (f : Int) (List.getD p.funcs f []).length 0 (out ++ [⟨((base p.funcs f + 2 + 0 : Nat) : Int), (base p.funcs f : Int), -1, jy, 0#32, 0#32⟩]) (Nat.zero_add _) (by simp only [List.length_append, List.length_singleton]; omega)
  rw [show ((0 : Nat) : Int) = 0 from rfl] at q
  rw [bind_some h0, bind_some (il hb (by omega)), bind_some (oe _ _ _ _ _ _ _ _ _ (by omega))]
  rw [bind_some q, show ∀ (N : af) (t : List af), out ++ [N] ++ t = out ++ (N :: t) from fun N t => by simp]
  refine ih.trans ?_
  rw [eT]
  unfold mO
  rw [List.append_assoc]
theorem Fv (p : ac) (hg : a9 p) {bg : W32} (h : cS p = some (bg, 0)) : mX p = some (0, eT p bg 0 p.funcs.length) := by
 have hn := hg.funcs
 obtain ⟨bs, b1, b2⟩ := Aw p hg
 have q := zx p hg bs b2 bg p.globals p.locks p.slots p.funcs.length 0 [] (Nat.zero_add _) (by rw [List.length_nil]; omega)
 rw [show ((0 : Nat) : Int) = 0 from rfl, List.nil_append] at q
 unfold mX
 rw [bind_some h, if_neg (show ¬ ((0 : Int) != 0) = true by decide), bind_some (show kA p = some p.slots from rfl), bind_some (fQ _), bind_some b1, bind_some q]
structure xp (p : ac) (l : List ab) (w : List W32) : Prop where
 len : w.length = base p.funcs p.funcs.length
 ent : ∀ f, f < p.funcs.length → gi w (base p.funcs f : Int) = (sec l f).liveEntry
 exi : ∀ f, f < p.funcs.length → gi w ((base p.funcs f + 1 : Nat) : Int) = (sec l f).liveExit
 nod : ∀ f i, f < p.funcs.length → i < (List.getD p.funcs f []).length → gi w ((base p.funcs f + 2 + i : Nat) : Int) = liv l f i
theorem iR {p : ac} {l : List ab} {w : List W32} (hL : xp p l w) {f : Nat} (hf : f < p.funcs.length) {js : List Int} (hj : ∀ y ∈ js, 0 ≤ y ∧ y < ((List.getD p.funcs f []).length : Int)) {own also : Int} {keep if_ th X : W32} (hX : ∀ to, bi ⟨to, own, also, keep, if_, th⟩ w = X) :
  (∀ r ∈ tp p.funcs f js own also keep if_ th, 0 ≤ r.to_ → r.to_ < (base p.funcs p.funcs.length : Int) → eo (gi w r.to_) (bi r w)) ↔ js.all (fun y => bD X (liv l f y.toNat)) = true := by
 rw [List.all_eq_true]
 constructor
 ·intro h y hy
  have hr := hj y hy
  have hb := eS (p := p) hf (k := 2 + y.toNat) (by omega)
  have := h _ (List.mem_map.2 ⟨y, hy, rfl⟩) (by show (0 : Int) ≤ ((_ : Nat) : Int); omega) (by show ((base p.funcs f + 2 + y.toNat : Nat) : Int) < _; omega)
  rw [hX] at this
  rw [show (gi w ((base p.funcs f + 2 + y.toNat : Nat) : Int)) = liv l f y.toNat from hL.nod f _ hf (by omega)] at this
  exact eK.2 this
 ·intro h r hr _ _
  obtain ⟨y, hy, rfl⟩ := List.mem_map.1 hr
  have hr := hj y hy
  rw [hX]
  show eo (gi w ((base p.funcs f + 2 + y.toNat : Nat) : Int)) X
  rw [hL.nod f _ hf (by omega)]
  exact eK.1 (h y hy)
theorem mP {N : Nat} {w : List W32} {to own also : Int} {keep th X Y : W32} (h0 : 0 ≤ to) (h1 : to < (N : Int)) (hX : ((gi w own &&& keep) ||| gi w also) ||| th = X) (hY : gi w to = Y) : (0 ≤ to → to < (N : Int) → eo (gi w to) (bi ⟨to, own, also, keep, 0#32, th⟩ w)) ↔ bD X Y = true := by
 rw [rV hX, hY]
 exact ⟨fun h => eK.2 (h h0 h1), fun h _ _ => eK.1 h⟩
theorem Fw {p : ac} {l : List ab} {bg : W32} {f i : Nat} : jb p l bg f i = 0 ↔ ((nde p f i).kind = 7 → bD (liv l f i) (sec l (nde p f i).arg.toNat).liveEntry = true) ∧ ((nde p f i).kind = 9 → bD (liv l f i) (sec l f).liveExit = true) ∧ ((nde p f i).kind = 5 → eC (sec l (nde p f i).arg.toNat).liveEntry p.slots = true) ∧ onL p l bg f i = true :=
 ⟨CR, fun ⟨h1, h2, h3, h4⟩ => by rw [oR h1 h2 h3, if_pos h4]⟩
theorem fG {a b c : W32} : bD (a ||| b) c = true ↔ bD a c = true ∧ bD b c = true := by
 rw [eK, eK, eK]
 constructor
 ·intro h
  exact ⟨fun i hi => h i (by rw [BitVec.getLsbD_or, hi]; rfl), fun i hi => h i (by rw [BitVec.getLsbD_or, hi, Bool.or_true])⟩
 ·rintro ⟨h1, h2⟩ i hi
  rw [BitVec.getLsbD_or, Bool.or_eq_true] at hi
  exact hi.elim (h1 i) (h2 i)
theorem HM {js : List Int} {q r s : Int → Bool} (h : ∀ y, s y = true ↔ q y = true ∧ r y = true) : js.all s = true ↔ js.all q = true ∧ js.all r = true := by
 rw [List.all_eq_true, List.all_eq_true, List.all_eq_true]
 exact ⟨fun g => ⟨fun y hy => ((h y).1 (g y hy)).1, fun y hy => ((h y).1 (g y hy)).2⟩, fun g y hy => (h y).2 ⟨g.1 y hy, g.2 y hy⟩⟩
theorem Gx {id : Int} (h0 : 0 ≤ id) (h1 : id < 32) (a : W32) : bD (one id) a = true ↔ eC a id = true := by
 unfold eC
 rw [if_pos ⟨h0, h1⟩, eK]
 constructor
 ·intro h
  exact h _ ((mm id _).2 ⟨by omega, by omega⟩)
 ·intro h i hi
  obtain ⟨h2, _⟩ := (mm id i).1 hi
  have : i = id.toNat := by omega
  rw [this]
  exact h
theorem Et {id : Int} (h0 : 0 ≤ id) (h1 : id < 32) (a : W32) : a &&& one id ≠ 0#32 ↔ eC a id = true := by
 unfold eC
 rw [if_pos ⟨h0, h1⟩, kQ]
 constructor
 ·rintro ⟨i, hi⟩
  rw [BitVec.getLsbD_and, Bool.and_eq_true, mm] at hi
  have : i = id.toNat := by omega
  rw [← this]
  exact hi.1
 ·intro h
  exact ⟨id.toNat, by rw [BitVec.getLsbD_and, h, Bool.true_and, mm]; omega⟩
theorem IE {id : Int} (h0 : 0 ≤ id) (h1 : id < 32) : one id ≠ 0#32 := kQ.2 ⟨id.toNat, (mm id _).2 ⟨by omega, by omega⟩⟩
theorem HN {w : List W32} {own id : Int} {th : W32} (h0 : 0 ≤ id) (h1 : id < 32) (to : Int) : bi ⟨to, own, -1, 0#32, one id, th⟩ w = if eC (gi w own) id = true then th else 0#32 := by
 unfold bi
 simp only []
 rw [ob]
 by_cases h : eC (gi w own) id = true
 ·rw [if_pos (.inr ((Et h0 h1 _).2 h)), if_pos h]; simp
 ·rw [if_neg (fun hh => hh.elim (IE h0 h1) fun hh => h ((Et h0 h1 _).1 hh)), if_neg h]; simp
theorem uf {p : ac} (hg : a9 p) {l : List ab} {w : List W32} {bg : W32} (hL : xp p l w) {f i : Nat} (hf : f < p.funcs.length) (hi : i < (List.getD p.funcs f []).length) :
  (∀ r ∈ oc p bg f i, 0 ≤ r.to_ → r.to_ < (base p.funcs p.funcs.length : Int) → eo (gi w r.to_) (bi r w)) ↔ jb p l bg f i = 0 := by
 have hok := hg.node f i hf hi
 have hjr := oQ hok (by omega)
 have hown := hL.nod f i hf hi
 have hsl := hg.slots
 have hc : (nde p f i).kind = 7 → 0 ≤ (nde p f i).arg ∧ (nde p f i).arg < p.funcs.length := hok.call
 have hsp : (nde p f i).kind = 5 → 0 ≤ (nde p f i).arg ∧ (nde p f i).arg < p.funcs.length ∧ 0 ≤ (nde p f i).alt ∧ (nde p f i).alt < p.slots := hok.spawn
 rw [Fw]
 unfold oc onL lbh xit
 simp only []
 by_cases h6 : (nde p f i).kind = 6
 ·have n5 : (nde p f i).kind ≠ 5 := by omega
  rw [if_pos h6, iR hL hf hjr (X := liv l f i &&& ~~~(one (nde p f i).arg)) (fun to => rV (by rw [ob, hown]; simp)), if_neg n5, if_pos h6]
  exact ⟨fun h => ⟨fun h7 => by omega, fun h9 => by omega, fun h5 => by omega, h⟩, fun h => h.2.2.2⟩
 rw [if_neg h6]
 by_cases h7 : (nde p f i).kind = 7
 ·have ha := hc h7
  have n5 : (nde p f i).kind ≠ 5 := by omega
  have hb := eS (p := p) (f := (nde p f i).arg.toNat) (by omega) (k := 0) (by omega)
  rw [if_pos h7, List.forall_mem_cons, mP (by omega) (by omega) (im w _) (hL.ent _ (by omega)), hown, iR hL hf hjr (X := (sec l (nde p f i).arg.toNat).liveExit) (fun to => rV (by rw [im, hL.exi _ (by omega)])), if_neg n5, if_neg h6, if_pos h7, if_pos h7]
  exact ⟨fun h => ⟨fun _ => h.1, fun h9 => by omega, fun h5 => by omega, h.2⟩, fun h => ⟨h.1 h7, h.2.2.2⟩⟩
 rw [if_neg h7]
 by_cases h9 : (nde p f i).kind = 9
 ·have hb := eS (p := p) hf (k := 1) (by omega)
  have n5 : (nde p f i).kind ≠ 5 := by omega
  rw [if_pos h9, List.forall_mem_cons, mP (by omega) (by omega) (im w _) (hL.exi _ hf), iR hL hf hjr (X := liv l f i) (fun to => rV (by rw [im, hown])), hown, if_neg n5, if_neg h6, if_neg h7]
  exact ⟨fun h => ⟨fun h => absurd h h7, fun _ => h.1, fun h5 => absurd h5 n5, h.2⟩, fun h => ⟨h.2.1 h9, h.2.2.2⟩⟩
 rw [if_neg h9]
 by_cases h5 : (nde p f i).kind = 5
 ·have ha := hsp h5
  have hb := eS (p := p) (f := (nde p f i).arg.toNat) (by omega) (k := 0) (by omega)
  rw [if_pos h5, List.forall_mem_append, List.forall_mem_cons, mP (X := one p.slots) (by omega) (by omega) (by rw [ob]; simp) (hL.ent _ (by omega)), Gx hsl.1 (by omega), iR hL hf hjr (X := if eC (liv l f i) (nde p f i).alt = true then one p.slots else 0#32) (fun to => by rw [HN ha.2.2.1 (by omega), hown]), iR hL hf hjr (X := liv l f i ||| (if eC bg (nde p f i).arg = true then one (nde p f i).alt ||| one p.slots else one (nde p f i).alt)) (fun to => rV (by rw [ob, Ax, hown]; simp)), if_pos h5]
  have hall : (succ (nde p f i)).all (fun y => bD ((liv l f i ||| one (nde p f i).alt) ||| (if eC bg (nde p f i).arg = true ∨ eC (liv l f i) (nde p f i).alt = true then one p.slots else 0#32)) (liv l f y.toNat)) = true ↔ (succ (nde p f i)).all (fun y => bD (if eC (liv l f i) (nde p f i).alt = true then one p.slots else 0#32) (liv l f y.toNat)) = true ∧ (succ (nde p f i)).all (fun y => bD (liv l f i ||| (if eC bg (nde p f i).arg = true then one (nde p f i).alt ||| one p.slots else one (nde p f i).alt)) (liv l f y.toNat)) = true := by
   refine HM fun y => ?_
   have hz : bD 0#32 (liv l f y.toNat) = true := eK.2 fun i h => by simp at h
   by_cases c1 : eC bg (nde p f i).arg = true <;> by_cases c2 : eC (liv l f i) (nde p f i).alt = true
   ·rw [if_pos (.inl c1), if_pos c2, if_pos c1, fG, fG, fG, fG]
    exact ⟨fun ⟨⟨a, b⟩, c⟩ => ⟨c, a, b, c⟩, fun ⟨_, a, b, c⟩ => ⟨⟨a, b⟩, c⟩⟩
   ·rw [if_pos (.inl c1), if_neg c2, if_pos c1, fG, fG, fG, fG]
    exact ⟨fun ⟨⟨a, b⟩, c⟩ => ⟨hz, a, b, c⟩, fun ⟨_, a, b, c⟩ => ⟨⟨a, b⟩, c⟩⟩
   ·rw [if_pos (.inr c2), if_pos c2, if_neg c1, fG, fG]
    exact ⟨fun ⟨a, c⟩ => ⟨c, a⟩, fun ⟨c, a⟩ => ⟨a, c⟩⟩
   ·rw [if_neg (fun h => h.elim c1 c2), if_neg c2, if_neg c1, fG, fG]
    exact ⟨fun ⟨a, c⟩ => ⟨c, a⟩, fun ⟨c, a⟩ => ⟨a, c⟩⟩
  rw [hall]
  exact ⟨fun h => ⟨fun h => absurd h h7, fun h => absurd h h9, fun _ => h.1.1, h.1.2, h.2⟩, fun h => ⟨⟨h.2.2.1 h5, h.2.2.2.1⟩, h.2.2.2.2⟩⟩
 ·rw [if_neg h5, iR hL hf hjr (X := liv l f i) (fun to => rV (by rw [im, hown])), if_neg h5, if_neg h6, if_neg h7]
  exact ⟨fun h => ⟨fun h => absurd h h7, fun h => absurd h h9, fun h => absurd h h5, h⟩, fun h => h.2.2.2⟩
theorem ug {p : ac} (hg : a9 p) {l : List ab} {w : List W32} {bg : W32} (hL : xp p l w) {f : Nat} (hf : f < p.funcs.length) :
  (∀ r ∈ mO p bg f, 0 ≤ r.to_ → r.to_ < (base p.funcs p.funcs.length : Int) → eo (gi w r.to_) (bi r w)) ↔ bD (sec l f).liveEntry (liv l f 0) = true ∧ ∀ i, i < (List.getD p.funcs f []).length → jb p l bg f i = 0 := by
 have hb0 := eS (p := p) hf (k := 0) (by omega)
 have hb2 := eS (p := p) hf (k := 2 + 0) (by have := hg.len f hf; omega)
 have hn : (∀ r ∈ io p bg f 0 (List.getD p.funcs f []).length, 0 ≤ r.to_ → r.to_ < (base p.funcs p.funcs.length : Int) → eo (gi w r.to_) (bi r w)) ↔ ∀ i, i < (List.getD p.funcs f []).length → jb p l bg f i = 0 := by
  constructor
  ·intro h i hi
   exact (uf hg hL hf hi).1 fun r hr => h r (oh.2 ⟨i, Nat.zero_le _, by omega, hr⟩)
  ·intro h r hr
   obtain ⟨k, _, h2, h3⟩ := oh.1 hr
   exact (uf hg hL hf (by omega)).2 (h k (by omega)) r h3
 unfold mO
 rw [List.forall_mem_cons, hn, mP (by omega) (by omega) (im w _) (hL.nod f 0 hf (hg.len f hf).1), hL.ent f hf]
theorem xq {p : ac} (hg : a9 p) {l : List ab} {w : List W32} {bg : W32} (hL : xp p l w) : lB (eT p bg 0 p.funcs.length) (base p.funcs p.funcs.length) w ↔ vL p l bg := by
 unfold lB vL
 constructor
 ·intro h f hf
  exact (ug hg hL hf).1 fun r hr => h r (oi.2 ⟨f, Nat.zero_le _, by omega, hr⟩)
 ·intro h r hr
  obtain ⟨k, _, h2, h3⟩ := oi.1 hr
  exact (ug hg hL (by omega)).2 (h k (by omega)) r h3
theorem xr (p : ac) (l : List ab) (hs : Shp p l) : ∀ m, m ≤ p.funcs.length → ∃ w : List W32, w.length = base p.funcs m ∧ ∀ f, f < m → gi w (base p.funcs f : Int) = (sec l f).liveEntry ∧ gi w ((base p.funcs f + 1 : Nat) : Int) = (sec l f).liveExit ∧ ∀ i, i < (List.getD p.funcs f []).length → gi w ((base p.funcs f + 2 + i : Nat) : Int) = liv l f i
 | 0, _ => ⟨[], rfl, fun f h => by omega⟩
 | m + 1, h => by
  obtain ⟨w, w1, w2⟩ := xr p l hs m (by omega)
  have hh := (hs.2 m (by omega)).2
  refine ⟨w ++ ((sec l m).liveEntry :: (sec l m).liveExit :: (sec l m).live), by rw [List.length_append, List.length_cons, List.length_cons, base, w1, hh]; omega, fun f hf => ?_⟩
  by_cases e : f = m
  ·subst e
   have g := fun j (hj : j < ((sec l f).liveEntry :: (sec l f).liveExit :: (sec l f).live).length) => BT (w := w) hj
   simp only [List.length_cons] at g
   rw [w1] at g
   refine ⟨?_, ?_, fun i hi => ?_⟩
   ·have := g 0 (by omega)
    rw [Nat.add_zero] at this
    rw [this]; rfl
   ·rw [g 1 (by omega)]; rfl
   ·rw [show base p.funcs f + 2 + i = base p.funcs f + (i + 2) by omega, g (i + 2) (by omega)]; rfl
  ·have hb := o3 p.funcs (show f < m by omega)
   obtain ⟨h1, h2, h3⟩ := w2 f (by omega)
   exact ⟨by rw [l9 (by omega)]; exact h1, by rw [l9 (by omega)]; exact h2, fun i hi => by rw [l9 (by omega)]; exact h3 i hi⟩
theorem Gy (p : ac) (l : List ab) (hs : Shp p l) : ∃ w, xp p l w := by
 obtain ⟨w, w1, w2⟩ := xr p l hs p.funcs.length (Nat.le_refl _)
 exact ⟨w, w1, fun f hf => (w2 f hf).1, fun f hf => (w2 f hf).2.1, fun f i hf hi => (w2 f hf).2.2 i hi⟩
theorem zy (p : ac) (hg : a9 p) (bs : List Int) (hb : iE p bs) (v : List W32) (hv : v.length = base p.funcs p.funcs.length) (x2 : List ab) (x4 : List W32) (x5 x6 x7 x8 : W32) (f : Nat) (hf : f < p.funcs.length) (x10 : FS) (x11 x12 : Int) : ∀ (m i : Nat) (h : List W32), i + m = (List.getD p.funcs f []).length → h.length = i → (∀ k, k < i → List.getD h k 0#32 = gi v ((base p.funcs f + 2 + k : Nat) : Int)) → ∃ h', fd bs v x2 x4 h x5 x6 x7 x8 (f : Int) x10 x11 x12 ((List.getD p.funcs f []).length : Int) (i : Int) = some h' ∧ h'.length = (List.getD p.funcs f []).length ∧ ∀ k, k < (List.getD p.funcs f []).length → List.getD h' k 0#32 = gi v ((base p.funcs f + 2 + k : Nat) : Int)
 | 0, i, h, hi, hl, hget => by
  rw [fd, iN (by omega)]
  exact ⟨h, rfl, by omega, fun k hk => hget k (by omega)⟩
 | m + 1, i, h, hi, hl, hget => by
  have hle := hg.le f
  have hbl := eS (p := p) hf (k := 2 + i) (by omega)
  have hn := lb hg hb hf (i := (i : Int)) (by omega) (by omega)
  rw [Int.toNat_natCast] at hn
  rw [fd, iP (by omega), bind_some hn, iP (by omega), iP (by omega), if_pos (Nat.ble_eq_true_of_le (by simp only [List.length_singleton, aK]; omega)), inc i (by omega), Int.toNat_natCast]
  refine zy p hg bs hb v hv x2 x4 x5 x6 x7 x8 f hf x10 x11 x12 m (i + 1) _ (by omega) (by rw [List.length_append, List.length_singleton]; omega) fun k hk => ?_
  rw [iF]
  split
  ·rename_i e
   subst e
   rw [hl]
   exact o7 (by omega)
  ·exact hget k (by omega)
structure xu (p : ac) (v : List W32) (f : Nat) (s : ab) : Prop where
 ent : s.liveEntry = gi v (base p.funcs f : Int)
 exi : s.liveExit = gi v ((base p.funcs f + 1 : Nat) : Int)
 hl : s.live.length = (List.getD p.funcs f []).length
 nod : ∀ i, i < (List.getD p.funcs f []).length → List.getD s.live i 0#32 = gi v ((base p.funcs f + 2 + i : Nat) : Int)
 hd : s.held = List.replicate (List.getD p.funcs f []).length 0#32
 en : s.entry = 0#32
 ex : s.exit = 0#32
theorem BY (p : ac) (hg : a9 p) (bs : List Int) (hb : iE p bs) (v : List W32) (hv : v.length = base p.funcs p.funcs.length) : ∀ (m f : Nat) (t : List ab), f + m = p.funcs.length → t.length = f → (∀ g, g < f → xu p v g (sec t g)) → ∃ t', fD bs v t p.funcs (p.funcs.length : Int) (f : Int) = some t' ∧ t'.length = p.funcs.length ∧ ∀ g, g < p.funcs.length → xu p v g (sec t' g)
 | 0, f, t, h, hl, hget => by
  rw [fD, iN (by omega)]
  exact ⟨t, rfl, by omega, fun g hg => hget g (by omega)⟩
 | m + 1, f, t, h, hl, hget => by
  have hn := hg.funcs
  have hle := hg.le f
  have hb0 := eS (p := p) (f := f) (by omega) (k := 0) (by omega)
  have hb1 := eS (p := p) (f := f) (by omega) (k := 1) (by omega)
  obtain ⟨hd, q1, q2, q3⟩ := zy p hg bs hb v hv t (List.replicate (List.getD p.funcs f []).length 0#32) 0#32 0#32 (List.getD v (base p.funcs f) 0#32) (List.getD v (base p.funcs f + 1) 0#32) f (by omega) p.funcs (p.funcs.length : Int) (f : Int) (List.getD p.funcs f []).length 0 [] (Nat.zero_add _) rfl (fun k hk => by omega)
  rw [show ((0 : Nat) : Int) = 0 from rfl] at q1
  rw [fD, iP (by omega), iP (by omega), iP (by omega), bind_some (il hb (by omega)), iP (by omega), iP (by omega), bind_some (o4 hg hb (by omega)), iP (by omega), iP (by omega), Int.toNat_natCast f, iP (by omega), if_pos (decide_eq_true (by simp only [aK]; omega)), Int.toNat_natCast, Int.toNat_natCast, Int.toNat_natCast, bind_some q1, if_pos (Nat.ble_eq_true_of_le (by simp only [List.length_singleton, aK]; omega)), inc f (by omega)]
  refine BY p hg bs hb v hv m (f + 1) _ (by omega) (by rw [List.length_append, List.length_singleton]; omega) fun g hgf => ?_
  unfold sec
  rw [iF]
  split
  ·rename_i e
   subst e
   rw [hl]
   exact ⟨o7 (by omega), o7 (by omega), q2, q3, rfl, rfl, rfl⟩
  ·exact hget g (by omega)
theorem BZ {p : ac} {v : List W32} {t : List ab} (hv : v.length = base p.funcs p.funcs.length) (hl : t.length = p.funcs.length) (h : ∀ g, g < p.funcs.length → xu p v g (sec t g)) : xp p t v ∧ Shp p t :=
 ⟨⟨hv, fun f hf => (h f hf).ent.symm, fun f hf => (h f hf).exi.symm, fun f i hf hi => ((h f hf).nod i hi).symm⟩, hl, fun f hf => ⟨by rw [(h f hf).hd, List.length_replicate], (h f hf).hl⟩⟩
theorem B1 (p : ac) (hg : a9 p) {bg : W32} (h : cS p = some (bg, 0)) : ∃ v t, jV p = some (0, t) ∧ Lfp (eT p bg 0 p.funcs.length) (List.replicate (base p.funcs p.funcs.length) 0#32) v ∧ v.length = base p.funcs p.funcs.length ∧ t.length = p.funcs.length ∧ ∀ g, g < p.funcs.length → xu p v g (sec t g) := by
 have hn := hg.funcs
 have hbl := o2 hg p.funcs.length
 have hrl := ue hg bg p.funcs.length 0
 obtain ⟨bs, b1, b2⟩ := Aw p hg
 obtain ⟨v, v1, v2⟩ := Gt (base p.funcs p.funcs.length : Int) (eT p bg 0 p.funcs.length) (by omega)
 rw [if_pos (by omega), Int.toNat_natCast] at v2
 have hv : v.length = base p.funcs p.funcs.length := by rw [v2.len, List.length_replicate]
 obtain ⟨t, t1, t2, t3⟩ := BY p hg bs b2 v hv p.funcs.length 0 [] (Nat.zero_add _) rfl (fun g h => by omega)
 rw [show ((0 : Nat) : Int) = 0 from rfl] at t1
 unfold jV
 rw [bind_some (Fv p hg h), if_neg (show ¬ ((0 : Int) != 0) = true by decide), bind_some b1, bind_some v1, bind_some t1]
 exact ⟨v, t, rfl, v2, hv, t2, t3⟩
theorem Gz {p : ac} {bg : W32} {v w : List W32} (hv : Lfp (eT p bg 0 p.funcs.length) (List.replicate (base p.funcs p.funcs.length) 0#32) v) (hw : lB (eT p bg 0 p.funcs.length) (base p.funcs p.funcs.length) w) (j : Int) : sub (gi v j) (gi w j) :=
 hv.best w (by rw [List.length_replicate]; exact hw) (fun j => by
  intro i hi
  have : gi (List.replicate (base p.funcs p.funcs.length) 0#32) j = 0#32 := by
   unfold gi
   split
   ·simp only [List.getD, List.getElem?_replicate]
    split <;> rfl
   ·rfl
  rw [this] at hi
  simp at hi) j
theorem xv (p : ac) (hg : a9 p) {bg : W32} (h : cS p = some (bg, 0)) : (∀ l, Shp p l → eG p l = some (pX p l bg, 0)) ∧ ∀ l, ¬ Shp p l → eG p l = some (⟨-1, -1, 1⟩, 0) := by
 have hn := hg.funcs.2
 refine ⟨fun l hs => ?_, fun l hs => ?_⟩
 ·obtain ⟨b, b1, b2⟩ := mM p l (by omega)
  have hb := b2.2 hs
  have h8 := FV p hg l hs bg l.length 0 (by omega)
  rw [show ((0 : Nat) : Int) = 0 from rfl] at h8
  unfold eG
  rw [bind_some h, if_neg (show ¬ ((0 : Int) != 0) = true by decide), bind_some b1, hb, if_neg (by decide), bind_some h8]
  unfold pX
  cases bG (jY p l bg) 0 l.length with
  | some y => rfl
  | none => rfl
 ·obtain ⟨b, b1, b2⟩ := mM p l (by omega)
  have hb : b = false := by
   cases b with
   | false => rfl
   | true => exact absurd (b2.1 rfl) hs
  unfold eG
  rw [bind_some h, if_neg (show ¬ ((0 : Int) != 0) = true by decide), bind_some b1, hb, if_pos (by decide)]
theorem sub_zero {a : W32} (h : sub a 0#32) : a = 0#32 := by
 apply BitVec.eq_of_getLsbD_eq
 intro i hi
 cases hb : a.getLsbD i with
 | false => simp
 | true => have := h i hb; simp at this
abbrev B8 := BitVec 8
def fo (n : Nat) : List B8 := if n < 128 then [BitVec.ofNat 8 n] else BitVec.ofNat 8 (128 + n % 128) :: fo (n / 128)
 termination_by n
 decreasing_by omega
theorem Ay {n : Nat} (h : n < 128) : fo n = [BitVec.ofNat 8 n] := by rw [fo, if_pos h]
theorem Eu {n : Nat} (h : ¬ n < 128) : fo n = BitVec.ofNat 8 (128 + n % 128) :: fo (n / 128) := by rw [fo, if_neg h]
theorem B2 : ∀ (k n : Nat), n < 128 ^ (k + 1) → (fo n).length ≤ k + 1
 | 0, n, h => by rw [Ay (by simpa using h)]; simp
 | k + 1, n, h => by
  by_cases h1 : n < 128
  ·rw [Ay h1]; simp
  ·rw [Eu h1, List.length_cons]
   have := B2 k (n / 128) (Nat.div_lt_of_lt_mul (by rw [Nat.pow_succ, Nat.mul_comm] at h; exact h))
   omega
theorem bx {n : Nat} (h : n < 4294967296) : (fo n).length ≤ 5 := B2 4 n (Nat.lt_of_lt_of_le h (by decide))
theorem Jd (x : BitVec 32) : (BitVec.setWidth 8 x ||| 128#8) = BitVec.ofNat 8 (128 + x.toNat % 128) := by
 apply BitVec.eq_of_toNat_eq
 have key : ∀ m, m < 256 → m ||| 128 = (128 + m % 128) % 256 := by decide
 rw [BitVec.toNat_or, BitVec.toNat_setWidth, BitVec.toNat_ofNat]
 show x.toNat % 256 ||| 128 = (128 + x.toNat % 128) % 256
 rw [key _ (Nat.mod_lt _ (by decide)), Nat.mod_mod_of_dvd _ (by decide : 128 ∣ 256)]
theorem qt {a : Nat} (h : a ≤ 100000000000000) : Nat.ble (a * 1) aK = true := Nat.ble_eq_true_of_le (by unfold aK; omega)
theorem GA : ∀ (k : Nat) (x0 : List B8) (x1 : BitVec 32), x1.toNat < 128 ^ (k + 1) → x0.length + k ≤ 1000000000 → ∃ z y, e9 x0 x1 = some (x0 ++ z, y) ∧ z.length ≤ k ∧ z ++ [BitVec.setWidth 8 y] = fo x1.toNat
 | k, x0, x1, h, hl => by
  by_cases h1 : x1.toNat < 128
  ·refine ⟨[], x1, ?_, by simp, ?_⟩
   ·rw [e9, if_neg (by simp only [decide_eq_true_eq, BitVec.le_def]; show ¬ 128 ≤ x1.toNat; omega), List.append_nil]
   ·rw [Ay h1]
    simp [← BitVec.ofNat_toNat]
  ·cases k with
   | zero => exact absurd (by simpa using h) h1
   | succ k =>
    have hs : (x1 >>> (BitVec.toNat (7#64))).toNat = x1.toNat / 128 := by
     rw [BitVec.toNat_ushiftRight, Nat.shiftRight_eq_div_pow]; rfl
    obtain ⟨z, y, q1, q2, q3⟩ := GA k (x0 ++ [(BitVec.setWidth 8 x1) ||| (128#8)]) (x1 >>> (BitVec.toNat (7#64))) (by
     rw [hs]; exact Nat.div_lt_of_lt_mul (by rw [Nat.pow_succ, Nat.mul_comm] at h; exact h)) (by rw [List.length_append]; simp; omega)
    refine ⟨((BitVec.setWidth 8 x1) ||| (128#8)) :: z, y, ?_, by rw [List.length_cons]; omega, ?_⟩
    ·rw [e9, if_pos (by simp only [decide_eq_true_eq, BitVec.le_def]; show 128 ≤ x1.toNat; omega), if_pos (qt (by simp; omega)), q1, List.append_assoc]
     rfl
    ·rw [Eu h1, List.cons_append, q3, hs, Jd]
theorem IF (n : BitVec 32) : mB n = some (fo n.toNat) := by
 obtain ⟨z, y, q1, q2, q3⟩ := GA 4 [] n (Nat.lt_of_lt_of_le n.isLt (by decide)) (by simp)
 unfold mB
 rw [bind_some q1]
 simp only [List.nil_append]
 rw [if_pos (qt (by simp; omega)), q3]
theorem kn (l : List B8) (n : Int) (h0 : 0 ≤ n) (h : n < 4294967296) (hl : l.length ≤ 1000000000) : aY l n = some (l ++ fo n.toNat) := by
 have e : (BitVec.ofInt 32 n).toNat = n.toNat := by rw [BitVec.toNat_ofInt]; simp; omega
 unfold aY
 rw [bind_some (IF _), e, if_pos (qt (by have := bx (n := n.toNat) (by omega); omega))]
def B3 (x : ad) : List B8 := fo x.kind.toNat ++ (if x.kind = 9 then [] else if x.kind = 0 then fo x.next.toNat else if x.kind = 5 then fo x.arg.toNat ++ (fo x.next.toNat ++ fo x.alt.toNat) else if x.kind = 8 then fo x.next.toNat ++ fo x.alt.toNat else fo x.arg.toNat ++ fo x.next.toNat)
def mQ (l : List ad) : Nat → Nat → List B8
 | _, 0 => []
 | i, m + 1 => B3 (List.getD l i ae) ++ mQ l (i + 1) m
def mR (fs : FS) : Nat → Nat → List B8
 | _, 0 => []
 | f, m + 1 => fo (List.getD fs f []).length ++ mQ (List.getD fs f []) 0 (List.getD fs f []).length ++ mR fs (f + 1) m
def gq (p : ac) : List B8 := [97#8, 108#8, 112#8, 49#8] ++ (fo p.globals.toNat ++ (fo p.locks.toNat ++ (fo p.slots.toNat ++ (fo p.funcs.length ++ mR p.funcs 0 p.funcs.length))))
def Sm (x : ad) : Prop := (0 ≤ x.kind ∧ x.kind ≤ 9) ∧ (x.kind ≠ 9 → 0 ≤ x.next ∧ x.next < 65536) ∧ (x.kind ≠ 9 → x.kind ≠ 0 → x.kind ≠ 8 → 0 ≤ x.arg ∧ x.arg < 65536) ∧ (x.kind = 5 ∨ x.kind = 8 → 0 ≤ x.alt ∧ x.alt < 65536)
theorem GB {p : ac} (hg : a9 p) {f i : Nat} (hf : f < p.funcs.length) (hi : i < (List.getD p.funcs f []).length) : Sm (List.getD (List.getD p.funcs f []) i ae) := by
 have h := hg.node f i hf hi
 have h1 := hg.globals
 have h2 := hg.locks
 have h3 := hg.slots
 have h4 := hg.funcs
 have h5 := hg.le f
 generalize List.getD (List.getD p.funcs f []) i ae = x at h
 have k := h.kind
 refine ⟨k, fun h9 => ?_, fun h9 h0 h8 => ?_, fun hh => ?_⟩
 ·have := h.next h9; omega
 ·have a1 := h.glob; have a2 := h.lock; have a3 := h.spawn; have a4 := h.join; have a5 := h.call
  omega
 ·have a3 := h.spawn; have a6 := h.alt
  omega
theorem zz {x : ad} (h : Sm x) : (B3 x).length ≤ 20 := by
 obtain ⟨h1, h2, h3, h4⟩ := h
 have q0 := bx (n := x.kind.toNat) (by omega)
 unfold B3
 rw [List.length_append]
 split
 ·simp; omega
 ·rename_i k9
  have q1 := bx (n := x.next.toNat) (by have := h2 k9; omega)
  split
  ·omega
  ·rename_i k0
   split
   ·have q2 := bx (n := x.arg.toNat) (by have := h3 k9 k0 (by omega); omega)
    have q3 := bx (n := x.alt.toNat) (by have := h4 (.inl ‹_›); omega)
    simp only [List.length_append]; omega
   ·split
    ·have q3 := bx (n := x.alt.toNat) (by have := h4 (.inr ‹_›); omega)
     simp only [List.length_append]; omega
    ·have q2 := bx (n := x.arg.toNat) (by have := h3 k9 k0 ‹_›; omega)
     simp only [List.length_append]; omega
theorem qu {l : List ad} (h : ∀ i, i < l.length → Sm (List.getD l i ae)) : ∀ (m i : Nat), i + m ≤ l.length → (mQ l i m).length ≤ 20 * m
 | 0, i, hi => by simp [mQ]
 | m + 1, i, hi => by
  have h1 := zz (h i (by omega))
  have h2 := qu h m (i + 1) (by omega)
  simp only [mQ, List.length_append]; omega
theorem zA (x1 : FS) (x2 x3 : Int) (l : List ad) (hle : l.length ≤ 65536) (h : ∀ i, i < l.length → Sm (List.getD l i ae)) : ∀ (m i : Nat) (b : List B8), i + m = l.length → b.length + 20 * m ≤ 1000000000 → bA b x1 x2 x3 l (l.length : Int) (i : Int) = some (b ++ mQ l i m)
 | 0, i, b, hi, hb => by
  rw [bA, iN (by omega), mQ, List.append_nil]
 | m + 1, i, b, hi, hb => by
  rw [bA, iP (by omega), iP (by omega), iP (by omega), Int.toNat_natCast i, inc i (by omega)]
  have hx := h i (by omega)
  have hl := zz hx
  have hw := zA x1 x2 x3 l hle h m (i + 1) (b ++ B3 (List.getD l i ae)) (by omega) (by rw [List.length_append]; omega)
  rw [mQ, ← List.append_assoc, ← hw]
  generalize List.getD l i ae = x at hx hl
  obtain ⟨h1, h2, h3, h4⟩ := hx
  have q0 := bx (n := x.kind.toNat) (by omega)
  rw [bind_some (kn b x.kind (by omega) (by omega) (by omega))]
  unfold nF B3
  by_cases k9 : x.kind = 9
  ·rw [if_pos (eqT k9), if_pos k9, List.append_nil]
   rfl
  rw [if_neg (eqF k9), if_neg k9]
  have n2 := h2 k9
  have q1 := bx (n := x.next.toNat) (by omega)
  by_cases k0 : x.kind = 0
  ·rw [if_pos (eqT k0), if_pos k0]
   simp only [bind, Option.bind_some, hD, gZ]
   rw [kn _ x.next (by omega) (by omega) (by rw [List.length_append]; omega)]
   simp only [Option.bind_some, List.append_assoc]
  rw [if_neg (eqF k0), if_neg k0]
  by_cases k5 : x.kind = 5
  ·have n3 := h3 k9 k0 (by omega)
   have n4 := h4 (.inl k5)
   have q2 := bx (n := x.arg.toNat) (by omega)
   rw [if_pos (eqT k5), if_pos k5]
   simp only [bind, Option.bind_some, ib, ia, hP, hJ]
   rw [kn _ x.arg (by omega) (by omega) (by rw [List.length_append]; omega)]
   simp only [Option.bind_some]
   rw [kn _ x.next (by omega) (by omega) (by simp only [List.length_append]; omega)]
   simp only [Option.bind_some]
   rw [kn _ x.alt (by omega) (by omega) (by simp only [List.length_append]; omega)]
   simp only [Option.bind_some, List.append_assoc]
  rw [if_neg (eqF k5), if_neg k5]
  by_cases k8 : x.kind = 8
  ·have n4 := h4 (.inr k8)
   rw [if_pos (eqT k8), if_pos k8]
   simp only [bind, Option.bind_some, ii, ig, ic]
   rw [kn _ x.next (by omega) (by omega) (by simp only [List.length_append]; omega)]
   simp only [Option.bind_some]
   rw [kn _ x.alt (by omega) (by omega) (by simp only [List.length_append]; omega)]
   simp only [Option.bind_some, List.append_assoc]
  ·have n3 := h3 k9 k0 k8
   have q2 := bx (n := x.arg.toNat) (by omega)
   rw [if_neg (eqF k8), if_neg k8]
   simp only [bind, Option.bind_some, gJ, gI, gH]
   rw [kn _ x.arg (by omega) (by omega) (by simp only [List.length_append]; omega)]
   simp only [Option.bind_some]
   rw [kn _ x.next (by omega) (by omega) (by simp only [List.length_append]; omega)]
   simp only [Option.bind_some, List.append_assoc]
theorem xw {p : ac} (hg : a9 p) : ∀ (m f : Nat), f + m ≤ p.funcs.length → (mR p.funcs f m).length ≤ 1285 * m
 | 0, f, hi => by simp [mR]
 | m + 1, f, hi => by
  have hle := hg.le f
  have h1 := qu (fun i hi' => GB hg (f := f) (by omega) hi') (List.getD p.funcs f []).length 0 (by omega)
  have h2 := xw hg m (f + 1) (by omega)
  have h3 := bx (n := (List.getD p.funcs f []).length) (by omega)
  simp only [mR, List.length_append]; omega
theorem zB {p : ac} (hg : a9 p) : ∀ (m f : Nat) (b : List B8), f + m = p.funcs.length → b.length + 1285 * m ≤ 100000000 → dL b p.funcs (p.funcs.length : Int) (f : Int) = some (b ++ mR p.funcs f m)
 | 0, f, b, hi, hb => by
  rw [dL, iN (by omega), mR, List.append_nil]
 | m + 1, f, b, hi, hb => by
  have hn := hg.funcs
  have hle := hg.le f
  have h3 := bx (n := (List.getD p.funcs f []).length) (by omega)
  have h1 := qu (fun i hi' => GB hg (f := f) (by omega) hi') (List.getD p.funcs f []).length 0 (by omega)
  have hw := zB hg m (f + 1) (b ++ (fo (List.getD p.funcs f []).length ++ mQ (List.getD p.funcs f []) 0 (List.getD p.funcs f []).length)) (by omega) (by simp only [List.length_append]; omega)
  rw [dL, iP (by omega), iP (by omega), iP (by omega), Int.toNat_natCast f, inc f (by omega), bind_some (kn b _ (by omega) (by omega) (by omega)), Int.toNat_natCast]
  have h16 := zA p.funcs (p.funcs.length : Int) (f : Int) (List.getD p.funcs f []) (by omega) (fun i hi' => GB hg (f := f) (by omega) hi') (List.getD p.funcs f []).length 0 (b ++ fo (List.getD p.funcs f []).length) (by omega) (by rw [List.length_append]; omega)
  rw [show ((0 : Nat) : Int) = 0 from rfl] at h16
  rw [bind_some h16, List.append_assoc, hw, mR]
  simp only [List.append_assoc]
theorem zC {p : ac} (hg : a9 p) : (gq p).length ≤ 30000 := by
 have h1 := hg.globals; have h2 := hg.locks; have h3 := hg.slots; have h4 := hg.funcs
 have h := xw hg p.funcs.length 0 (by omega)
 have q1 := bx (n := p.globals.toNat) (by omega)
 have q2 := bx (n := p.locks.toNat) (by omega)
 have q3 := bx (n := p.slots.toNat) (by omega)
 have q4 := bx (n := p.funcs.length) (by omega)
 unfold gq
 simp only [List.length_append, List.length_cons, List.length_nil]
 omega
def B4 (l : List Int) : Nat → Nat → List B8
 | _, 0 => []
 | i, m + 1 => fo (List.getD l i 0).toNat ++ B4 l (i + 1) m
theorem B5 (p : ac) (l : List Int) (hle : l.length ≤ 65536) (h : ∀ i, i < l.length → 0 ≤ List.getD l i 0 ∧ List.getD l i 0 < 65536) : ∀ (m i : Nat) (b : List B8), i + m = l.length → b.length + 5 * m ≤ 1000000000 → dw b l p.globals p.locks p.slots p.funcs (l.length : Int) (i : Int) = some (b ++ B4 l i m)
 | 0, i, b, hi, hb => by
  rw [dw, iN (by omega), B4, List.append_nil]
 | m + 1, i, b, hi, hb => by
  have hx := h i (by omega)
  have q := bx (n := (List.getD l i 0).toNat) (by omega)
  have hw := B5 p l hle h m (i + 1) (b ++ fo (List.getD l i 0).toNat) (by omega) (by rw [List.length_append]; omega)
  rw [dw, iP (by omega), iP (by omega), iP (by omega), Int.toNat_natCast i, inc i (by omega), bind_some (kn b _ hx.1 (by omega) (by omega)), hw, B4, List.append_assoc]
theorem Dg {p : ac} (hg : a9 p) (hk : aI p = some (0, 0, 0)) : gP p = some (0, gq p) := by
 have h1 := hg.globals; have h2 := hg.locks; have h3 := hg.slots; have h4 := hg.funcs
 have q1 := bx (n := p.globals.toNat) (by omega)
 have q2 := bx (n := p.locks.toNat) (by omega)
 have q3 := bx (n := p.slots.toNat) (by omega)
 have q4 := bx (n := p.funcs.length) (by omega)
 unfold gP
 rw [bind_some hk, if_neg (by decide)]
 unfold jx
 rw [if_pos (by decide), bind_some rfl, List.nil_append]
 have h7 := B5 p [p.globals, p.locks, p.slots, (p.funcs.length : Int)] (by simp) (fun i hi => by
  have : i = 0 ∨ i = 1 ∨ i = 2 ∨ i = 3 := by simp at hi; omega
  rcases this with rfl | rfl | rfl | rfl
  ·show 0 ≤ p.globals ∧ p.globals < 65536; omega
  ·show 0 ≤ p.locks ∧ p.locks < 65536; omega
  ·show 0 ≤ p.slots ∧ p.slots < 65536; omega
  ·show 0 ≤ (p.funcs.length : Int) ∧ (p.funcs.length : Int) < 65536; omega) 4 0 [97#8, 108#8, 112#8, 49#8] rfl (by simp)
 have e7 : B4 [p.globals, p.locks, p.slots, (p.funcs.length : Int)] 0 4 = fo p.globals.toNat ++ (fo p.locks.toNat ++ (fo p.slots.toNat ++ (fo p.funcs.length ++ []))) := rfl
 rw [e7, List.append_nil] at h7
 rw [bind_some (show dw [97#8, 108#8, 112#8, 49#8] [p.globals, p.locks, p.slots, (p.funcs.length : Int)] p.globals p.locks p.slots p.funcs _ 0 = _ from h7)]
 have h12 := zB hg p.funcs.length 0 ([97#8, 108#8, 112#8, 49#8] ++ (fo p.globals.toNat ++ (fo p.locks.toNat ++ (fo p.slots.toNat ++ fo p.funcs.length)))) (by omega) (by simp only [List.length_append, List.length_cons, List.length_nil]; omega)
 rw [show ((0 : Nat) : Int) = 0 from rfl] at h12
 have hl := zC hg
 have ep : [97#8, 108#8, 112#8, 49#8] ++ (fo p.globals.toNat ++ (fo p.locks.toNat ++ (fo p.slots.toNat ++ fo p.funcs.length))) ++ mR p.funcs 0 p.funcs.length = gq p := by
  unfold gq; simp only [List.append_assoc]
 rw [bind_some h12, ep]
 unfold ij
 rw [if_pos (qt (by simp; omega)), List.nil_append]
 rfl
theorem Fx {p : ac} {a b e : Int} (hk : aI p = some (a, b, e)) (he : e ≠ 0) : gP p = some (e, []) := by
 unfold gP
 rw [bind_some hk, if_pos (neT he)]
def ma (x : W32) (n : Nat) : W32 := (x <<< (32 - n)) ||| (x >>> n)
theorem Je (i : Nat) (h : i ≤ 1000000) : cv 4 (i : Int) = ((4 * i : Nat) : Int) := by rw [ve (by omega) (by omega)]; omega
theorem Jf (i : Nat) (h : i ≤ 1000000) : cv 8 (i : Int) = ((8 * i : Nat) : Int) := by rw [ve (by omega) (by omega)]; omega
theorem u7 (i k : Nat) (h : i ≤ 1000000) (h2 : k ≤ i) : aN (i : Int) (k : Int) = ((i - k : Nat) : Int) := by rw [i8 (by omega) (by omega)]; omega
theorem ji {α : Type} (f : Nat → α) (i : Nat) (v : α) : upd f i v i = v := by simp [upd]
theorem oj {α : Type} (f : Nat → α) {i j : Nat} (v : α) (h : j ≠ i) : upd f i v j = f j := by simp [upd, h]
theorem Az {α : Type} (f g : Nat → α) {n i : Nat} (h : i < n) : eD f 0 n g i = g i := by unfold eD; rw [if_pos (by omega), Nat.sub_zero]
def zD (b : List B8) (i : Nat) : W32 := ((((BitVec.setWidth 32 (List.getD b (4 * i) 0#8)) <<< 24) ||| ((BitVec.setWidth 32 (List.getD b (4 * i + 1) 0#8)) <<< 16)) ||| ((BitVec.setWidth 32 (List.getD b (4 * i + 2) 0#8)) <<< 8)) ||| (BitVec.setWidth 32 (List.getD b (4 * i + 3) 0#8))
def zE (w : Nat → W32) (i : Nat) : W32 := ((w (i - 16) + ((ma (w (i - 15)) 7 ^^^ ma (w (i - 15)) 18) ^^^ (w (i - 15) >>> 3))) + w (i - 7)) + ((ma (w (i - 2)) 17 ^^^ ma (w (i - 2)) 19) ^^^ (w (i - 2) >>> 10))
def wN (b : List B8) : Nat → Nat → W32
 | 0 => fun i => if i < 16 then zD b i else 0#32
 | k + 1 => upd (wN b k) (16 + k) (zE (wN b k) (16 + k))
theorem Dh (b : List B8) (k j : Nat) : List.getD (List.drop k b) j 0#8 = List.getD b (k + j) 0#8 := by simp [List.getD]
theorem HO (b : List B8) (i : Nat) (h : 4 * i + 4 ≤ b.length) : ry (List.drop (4 * i) b) = some (zD b i) := by
 have hl : (List.drop (4 * i) b).length = b.length - 4 * i := by simp
 unfold ry
 rw [iP (by omega), iP (by omega), iP (by omega), iP (by omega)]
 simp only [Dh, Nat.add_zero]
 rfl
theorem zF (x0 : Nat → W32) (b : List B8) (hb : 64 ≤ b.length) : ∀ (m i : Nat) (x : Nat → W32), i + m = 16 → (∀ j, j < i → x j = zD b j) → ∃ y, dU x0 x b (i : Int) = some y ∧ ∀ j, j < 16 → y j = zD b j
 | 0, i, x, hi, h => by
  rw [dU, iN (by omega)]
  exact ⟨x, rfl, fun j hj => h j (by omega)⟩
 | m + 1, i, x, hi, h => by
  obtain ⟨y, q1, q2⟩ := zF x0 b hb m (i + 1) (upd x i (zD b i)) (by omega) (fun j hj => by
   by_cases e : j = i
   ·subst e; exact ji _ _ _
   ·rw [oj _ _ e]; exact h j (by omega))
  refine ⟨y, ?_, q2⟩
  rw [dU, iP (by omega), Je i (by omega), iP (by omega), iP (by omega), Int.toNat_natCast (4 * i), List.take_of_length_le (Nat.le_refl _), bind_some (HO b i (by omega)), iP (by omega), iP (by omega), Int.toNat_natCast i, inc i (by omega)]
  exact q1
theorem u9 (x : W32) : cf x 2 = some (ma x 2) ∧ cf x 6 = some (ma x 6) ∧ cf x 7 = some (ma x 7) ∧ cf x 11 = some (ma x 11) ∧ cf x 13 = some (ma x 13) ∧ cf x 17 = some (ma x 17) ∧ cf x 18 = some (ma x 18) ∧ cf x 19 = some (ma x 19) ∧ cf x 22 = some (ma x 22) ∧ cf x 25 = some (ma x 25) :=
 ⟨by kernel_rfl, by kernel_rfl, by kernel_rfl, by kernel_rfl, by kernel_rfl, by kernel_rfl, by kernel_rfl, by kernel_rfl, by kernel_rfl, by kernel_rfl⟩
theorem zG (x0 : Nat → W32) (b : List B8) : ∀ (m k : Nat) (x : Nat → W32), k + m = 48 → (∀ j, j < 16 + k → x j = wN b k j) → ∃ y, dW x0 x ((16 + k : Nat) : Int) = some y ∧ ∀ j, j < 64 → y j = wN b 48 j
 | 0, k, x, hk, h => by
  rw [dW, iN (by omega)]
  have : k = 48 := by omega
  subst this
  exact ⟨x, rfl, fun j hj => h j (by omega)⟩
 | m + 1, k, x, hk, h => by
  have e1 := u7 (16 + k) 15 (by omega) (by omega)
  have e2 := u7 (16 + k) 2 (by omega) (by omega)
  have e3 := u7 (16 + k) 16 (by omega) (by omega)
  have e4 := u7 (16 + k) 7 (by omega) (by omega)
  have hw : zE x (16 + k) = zE (wN b k) (16 + k) := by
   unfold zE
   rw [h (16 + k - 16) (by omega), h (16 + k - 15) (by omega), h (16 + k - 7) (by omega), h (16 + k - 2) (by omega)]
  obtain ⟨y, q1, q2⟩ := zG x0 b m (k + 1) (upd x (16 + k) (zE x (16 + k))) (by omega) (fun j hj => by
   show _ = upd (wN b k) (16 + k) (zE (wN b k) (16 + k)) j
   by_cases e : j = 16 + k
   ·subst e; rw [ji, ji, hw]
   ·rw [oj _ _ e, oj _ _ e]; exact h j (by omega))
  refine ⟨y, ?_, q2⟩
  have t1 := u9 (x (16 + k - 15))
  have t2 := u9 (x (16 + k - 2))
  have e1 : aN ((16 + k : Nat) : Int) 15 = ((16 + k - 15 : Nat) : Int) := e1
  have e2 : aN ((16 + k : Nat) : Int) 2 = ((16 + k - 2 : Nat) : Int) := e2
  have e3 : aN ((16 + k : Nat) : Int) 16 = ((16 + k - 16 : Nat) : Int) := e3
  have e4 : aN ((16 + k : Nat) : Int) 7 = ((16 + k - 7 : Nat) : Int) := e4
  rw [dW, iP (by omega), e1, iP (by omega), iP (by omega), e2, iP (by omega), iP (by omega), e3, iP (by omega), iP (by omega),
   Int.toNat_natCast (16 + k - 15), Int.toNat_natCast (16 + k - 2), Int.toNat_natCast (16 + k - 16), bind_some t1.2.2.1, bind_some t1.2.2.2.2.2.2.1, e4, iP (by omega), iP (by omega), Int.toNat_natCast (16 + k - 7), bind_some t2.2.2.2.2.2.1, bind_some t2.2.2.2.2.2.2.2.1, iP (by omega), iP (by omega), Int.toNat_natCast (16 + k), inc (16 + k) (by omega)]
  exact q1
theorem Fy (b : List B8) (hb : 64 ≤ b.length) : ∃ y, mC b = some y ∧ ∀ j, j < 64 → y j = wN b 48 j := by
 obtain ⟨x, q1, q2⟩ := zF (fun _ => 0#32) b hb 16 0 (fun _ => 0#32) (by omega) (fun j hj => by omega)
 obtain ⟨y, q3, q4⟩ := zG (fun _ => 0#32) b 48 0 x (by omega) (fun j hj => by
  rw [q2 j (by omega)]
  show _ = if j < 16 then zD b j else 0#32
  rw [if_pos (by omega)])
 unfold mC
 rw [bind_some (show dU _ _ b 0 = _ from q1), bind_some (show dW _ x 16 = _ from q3)]
 exact ⟨_, rfl, fun j hj => by rw [Az _ _ hj]; exact q4 j hj⟩
def IG (s : Nat → W32) (k w : W32) : W32 := (((s 7 + ((ma (s 4) 6 ^^^ ma (s 4) 11) ^^^ ma (s 4) 25)) + ((s 4 &&& s 5) ^^^ (~~~(s 4) &&& s 6))) + k) + w
def Jg (s : Nat → W32) : W32 := ((ma (s 0) 2 ^^^ ma (s 0) 13) ^^^ ma (s 0) 22) + (((s 0 &&& s 1) ^^^ (s 0 &&& s 2)) ^^^ (s 1 &&& s 2))
def rnd (s : Nat → W32) (k w : W32) : Nat → W32 := fun i => if i = 0 then IG s k w + Jg s else if i = 4 then s 3 + IG s k w else if i < 8 then s (i - 1) else s i
def rds (w : Nat → W32) (s : Nat → W32) : Nat → Nat → W32
 | 0 => s
 | k + 1 => rnd (rds w s k) (zi k) (w k)
def comp (h : Nat → W32) (b : List B8) : Nat → W32 := fun i => if i < 8 then h i + rds (wN b 48) (eD (fun _ => 0#32) 0 8 h) 64 i else h i
theorem IH (x : Nat → W32) (t u : W32) (k w : W32) (ht : t = IG x k w) (hu : u = t + Jg x) : upd (upd (eD x 1 7 (fun i => x (iC 0 i))) 4 ((eD x 1 7 (fun i => x (iC 0 i))) 4 + t)) 0 u = rnd x k w := by
 funext i
 subst hu ht
 unfold rnd
 by_cases h0 : i = 0
 ·subst h0; rw [ji, if_pos rfl]
 ·rw [oj _ _ h0, if_neg h0]
  by_cases h4 : i = 4
  ·subst h4; rw [ji, if_pos rfl]; rfl
  ·rw [oj _ _ h4, if_neg h4]
   unfold eD
   by_cases h8 : i < 8
   ·rw [if_pos (by omega), if_pos h8]; rfl
   ·rw [if_neg (by omega), if_neg h8]
theorem GC (x0 : List B8) (x1 : Nat → W32) (w : Nat → W32) (hw : ∀ j, j < 64 → x1 j = w j) (s : Nat → W32) (x3 : Nat → W32) (x4 x5 : Nat) (x6 : BitVec 64) : ∀ (m k : Nat), k + m = 64 → bT x0 x1 (rds w s k) x3 x4 x5 x6 zi (k : Int) = some (rds w s 64)
 | 0, k, hk => by
  have : k = 64 := by omega
  subst this
  rw [bT, if_neg (by simp)]
 | m + 1, k, hk => by
  have ih := GC x0 x1 w hw s x3 x4 x5 x6 m (k + 1) (by omega)
  have t1 := u9 (rds w s k 4)
  have t2 := u9 (rds w s k 0)
  rw [bT, iP (by omega), iP (by omega), iP (by omega), bind_some t1.2.1, bind_some t1.2.2.2.1, bind_some t1.2.2.2.2.2.2.2.2.2, bind_some t2.1, bind_some t2.2.2.2.2.1, bind_some t2.2.2.2.2.2.2.2.2.1, Int.toNat_natCast k, inc k (by omega), hw k (by omega)]
  exact (congrArg (fun z => bT x0 x1 z x3 x4 x5 x6 zi ((k + 1 : Nat) : Int)) (IH (rds w s k) _ _ (zi k) (w k) rfl rfl)).trans ih
theorem Ew (x0 : List B8) (r h : Nat → W32) (x3 x4 : Nat) (x5 : BitVec 64) : ∀ (m k : Nat) (x : Nat → W32), k + m = 8 → (∀ j, x j = if j < k then h j + r j else h j) → ∃ y, bZ x0 r x x3 x4 x5 (k : Int) = some y ∧ ∀ j, y j = if j < 8 then h j + r j else h j
 | 0, k, x, hk, hx => by
  have : k = 8 := by omega
  subst this
  rw [bZ, if_neg (by simp)]
  exact ⟨x, rfl, hx⟩
 | m + 1, k, x, hk, hx => by
  obtain ⟨y, q1, q2⟩ := Ew x0 r h x3 x4 x5 m (k + 1) (upd x k (x k + r k)) (by omega) (fun j => by
   by_cases e : j = k
   ·subst e; rw [ji, if_pos (by omega), hx, if_neg (by omega)]
   ·rw [oj _ _ e, hx]
    by_cases h1 : j < k
    ·rw [if_pos h1, if_pos (by omega)]
    ·rw [if_neg h1, if_neg (by omega)])
  refine ⟨y, ?_, q2⟩
  rw [bZ, iP (by omega), iP (by omega), iP (by omega), Int.toNat_natCast k, inc k (by omega)]
  exact q1
theorem II (l1 : List B8) (h : Nat → W32) (lo n : Nat) (c : BitVec 64) (b : List B8) (hb : 64 ≤ b.length) : i4 l1 h lo n c b = some (comp h b) := by
 obtain ⟨y, q1, q2⟩ := Fy b hb
 unfold i4
 have q3 := GC l1 (eD (fun _ => 0#32) 0 64 y) (wN b 48) (fun j hj => by rw [Az _ _ hj]; exact q2 j hj) (eD (fun _ => 0#32) 0 8 h) h lo n c 64 0 (by omega)
 obtain ⟨z, q4, q5⟩ := Ew l1 (rds (wN b 48) (eD (fun _ => 0#32) 0 8 h) 64) h lo n c 8 0 h (by omega) (fun j => by rw [if_neg (by omega)])
 rw [bind_some q1, bind_some (show bT l1 (eD (fun _ => 0#32) 0 64 y) (eD (fun _ => 0#32) 0 8 h) h lo n c zi 0 = _ from q3), bind_some (show bZ l1 _ h lo n c 0 = _ from q4)]
 congr 1
 funext j
 exact q5 j
def blk (h : Nat → W32) (l : List B8) : Nat → Nat → W32
 | 0 => h
 | k + 1 => comp (blk h l k) (List.take 64 (List.drop (64 * k) l))
theorem Ey (h : Nat → W32) (t b : List B8) : ∀ k, 64 * k ≤ t.length → blk h (t ++ b) k = blk h t k
 | 0, _ => rfl
 | k + 1, hk => by
  simp only [blk]
  rw [Ey h t b k (by omega), List.drop_append_of_le_length (by omega), List.take_append_of_le_length (by simp; omega)]
theorem Ez (h : Nat → W32) (l : List B8) (q : Nat) : ∀ k, blk (blk h l q) (List.drop (64 * q) l) k = blk h l (q + k)
 | 0 => rfl
 | k + 1 => by
  simp only [blk]
  rw [Ez h l q k, List.drop_drop, show 64 * q + 64 * k = 64 * (q + k) by omega]
  rfl
theorem B6 (x0 l : List B8) (h : Nat → W32) (x3 x4 : Nat) (x5 : BitVec 64) (hl : l.length ≤ 1000000000) : ∀ (m j : Nat), j + m = l.length / 64 → bN x0 l (blk h l j) x3 x4 x5 (64 * j) (l.length - 64 * j) = some (blk h l (l.length / 64), 64 * (l.length / 64), l.length - 64 * (l.length / 64))
 | 0, j, hj => by
  rw [bN, iN (by omega)]
  rw [show j = l.length / 64 by omega]
 | m + 1, j, hj => by
  have ih := B6 x0 l h x3 x4 x5 hl m (j + 1) (by omega)
  rw [bN, iP (by omega), iP (by omega), f8, f8, iP (by omega), Nat.add_zero, bind_some (II x0 (blk h l j) x3 x4 x5 _ (by simp; omega)), show 64 * j + 64 = 64 * (j + 1) by omega, show l.length - 64 * j - 64 = l.length - 64 * (j + 1) by omega]
  exact ih
def H0 (i : Nat) : W32 := List.getD [1779033703#32, 3144134277#32, 1013904242#32, 2773480762#32, 1359893119#32, 2600822924#32, 528734635#32, 1541459225#32] i (0#32)
structure Rep (l1 : List B8) (h : Nat → W32) (lo n : Nat) (c : BitVec 64) (t : List B8) : Prop where
 hh : h = blk H0 t (t.length / 64)
 left : List.take n (List.drop lo l1) = List.drop (64 * (t.length / 64)) t
 nn : n = t.length - 64 * (t.length / 64)
 fits : lo + n ≤ l1.length
 cc : c = BitVec.ofNat 64 t.length
theorem o8 {l1 : List B8} {h : Nat → W32} {lo n : Nat} {c : BitVec 64} {t : List B8} (r : Rep l1 h lo n c t) (b : List B8) (hs : t.length + b.length ≤ 100000000) : ∃ l' h' lo' n' c', cR l1 h lo n c b = some (l', h', lo', n', c') ∧ Rep l' h' lo' n' c' (t ++ b) := by
 have hq := r.nn
 have hL : (List.drop (64 * (t.length / 64)) t ++ b) = List.drop (64 * (t.length / 64)) (t ++ b) := (List.drop_append_of_le_length (by omega)).symm
 have hn : (List.drop (64 * (t.length / 64)) (t ++ b)).length = t.length + b.length - 64 * (t.length / 64) := by simp
 have hd : t.length / 64 + (t.length + b.length - 64 * (t.length / 64)) / 64 = (t ++ b).length / 64 := by rw [List.length_append]; omega
 have w := B6 l1 (List.drop (64 * (t.length / 64)) (t ++ b)) h lo n (c + BitVec.ofInt 64 (b.length : Int)) (by rw [hn]; omega) ((List.drop (64 * (t.length / 64)) (t ++ b)).length / 64) 0 (by omega)
 rw [Nat.mul_zero, Nat.sub_zero] at w
 have w : bN l1 (List.drop (64 * (t.length / 64)) (t ++ b)) h lo n (c + BitVec.ofInt 64 (b.length : Int)) 0 (List.drop (64 * (t.length / 64)) (t ++ b)).length = _ := w
 refine ⟨(List.drop (64 * (t.length / 64)) (t ++ b)), blk h (List.drop (64 * (t.length / 64)) (t ++ b)) ((List.drop (64 * (t.length / 64)) (t ++ b)).length / 64), 64 * ((List.drop (64 * (t.length / 64)) (t ++ b)).length / 64), (List.drop (64 * (t.length / 64)) (t ++ b)).length - 64 * ((List.drop (64 * (t.length / 64)) (t ++ b)).length / 64), c + BitVec.ofInt 64 (b.length : Int), ?_, ?_⟩
 ·unfold cR
  rw [if_pos (decide_eq_true r.fits), if_pos (qt (by simp; omega)), List.nil_append, r.left, if_pos (qt (by simp; omega)), hL, bind_some w]
 ·refine ⟨?_, ?_, ?_, ?_, ?_⟩
  ·rw [hn, r.hh, ← Ey H0 t b _ (by omega), Ez, hd]
  ·rw [hn, List.take_of_length_le (by simp; omega), List.drop_drop, show 64 * (t.length / 64) + 64 * ((t.length + b.length - 64 * (t.length / 64)) / 64) = 64 * (t.length / 64 + (t.length + b.length - 64 * (t.length / 64)) / 64) by omega, hd]
  ·rw [hn, ← hd, List.length_append]; omega
  ·rw [hn]; omega
  ·rw [r.cc, List.length_append]
   apply BitVec.eq_of_toNat_eq
   rw [BitVec.toNat_add, BitVec.toNat_ofInt, BitVec.toNat_ofNat, BitVec.toNat_ofNat]
   omega
def pz (n : Nat) : Nat := (64 + 56 - n % 64) % 64
theorem GD (x0 : List B8) (x1 : Nat → B8) (x3 : Nat → W32) (x4 x5 : Nat) (x6 x11 : BitVec 64) : ∀ (m : Nat) (l1 : List B8) (h : Nat → W32) (lo n : Nat) (c : BitVec 64) (t : List B8), m = pz t.length → t.length + m ≤ 90000000 → Rep l1 h lo n c t → ∃ l' h' lo' n' c', de x0 x1 l1 x3 x4 x5 x6 h lo n c x11 = some (l', h', lo', n', c') ∧ Rep l' h' lo' n' c' (t ++ List.replicate m 0#8)
 | 0, l1, h, lo, n, c, t, hm, hs, r => by
  have hn := r.nn
  unfold pz at hm
  rw [de, if_neg (by simp only [bne_iff_ne, ne_eq, Decidable.not_not]; omega)]
  exact ⟨_, _, _, _, _, rfl, by rw [List.replicate_zero, List.append_nil]; exact r⟩
 | m + 1, l1, h, lo, n, c, t, hm, hs, r => by
  have hn := r.nn
  unfold pz at hm
  obtain ⟨a1, a2, a3, a4, a5, w, r'⟩ := o8 r [0#8] (by simp; omega)
  have hp : pz (t ++ [0#8]).length = m := by unfold pz; rw [List.length_append, List.length_singleton]; omega
  obtain ⟨b1, b2, b3, b4, b5, w2, r2⟩ := GD x0 x1 x3 x4 x5 x6 x11 m a1 a2 a3 a4 a5 (t ++ [0#8]) hp.symm (by simp; omega) r'
  refine ⟨b1, b2, b3, b4, b5, ?_, ?_⟩
  ·rw [de, if_pos (by simp only [bne_iff_ne, ne_eq]; omega), bind_some w]
   exact w2
  ·rw [List.append_assoc] at r2
   exact r2
def B7 (n : Nat) : List B8 := (List.range 8).map fun i => BitVec.setWidth 8 ((BitVec.ofNat 64 n * 8#64) >>> (56 - 8 * i))
theorem GE (x0 : List B8) (x1 : Nat → B8) (x2 : List B8) (x4 : Nat → W32) (x5 x6 : Nat) (x7 : BitVec 64) (x8 : Nat → W32) (x9 x10 : Nat) (x11 x12 : BitVec 64) : ∀ (m k : Nat) (x : Nat → B8), k + m = 8 → (∀ j, j < k → x j = BitVec.setWidth 8 (x12 >>> (56 - 8 * j))) → ∃ y, cA x0 x1 x2 x x4 x5 x6 x7 x8 x9 x10 x11 x12 (k : Int) = some y ∧ ∀ j, j < 8 → y j = BitVec.setWidth 8 (x12 >>> (56 - 8 * j))
 | 0, k, x, hk, hx => by
  rw [cA, iN (by omega)]
  exact ⟨x, rfl, fun j hj => hx j (by omega)⟩
 | m + 1, k, x, hk, hx => by
  have e1 : aN 56 ((8 * k : Nat) : Int) = ((56 - 8 * k : Nat) : Int) := by rw [i8 (by omega) (by omega)]; omega
  obtain ⟨y, q1, q2⟩ := GE x0 x1 x2 x4 x5 x6 x7 x8 x9 x10 x11 x12 m (k + 1) (upd x k (BitVec.setWidth 8 (x12 >>> (56 - 8 * k)))) (by omega) (fun j hj => by
   by_cases e : j = k
   ·subst e; exact ji _ _ _
   ·rw [oj _ _ e]; exact hx j (by omega))
  refine ⟨y, ?_, q2⟩
  rw [cA, iP (by omega), Jf k (by omega), e1, iP (by omega), iP (by omega), iP (by omega), Int.toNat_natCast k, Int.toNat_natCast (56 - 8 * k), inc k (by omega)]
  exact q1
def Fz (h : Nat → W32) (i : Nat) : B8 := BitVec.setWidth 8 (h (i / 4) >>> (24 - 8 * (i % 4)))
theorem EA (x0 : List B8) (x1 : Nat → B8) (x3 : Nat → W32) (x4 x5 : Nat) (x6 : BitVec 64) (h : Nat → W32) (q : Nat) (hq : q < 8) (x10 : Int) : ∀ (m k : Nat) (x : Nat → B8), k + m = 4 → (∀ j, j < 4 * q + k → x j = Fz h j) → ∃ y, b6 x0 x1 x x3 x4 x5 x6 (q : Int) (h q) h x10 (k : Int) = some y ∧ ∀ j, j < 4 * (q + 1) → y j = Fz h j
 | 0, k, x, hk, hx => by
  rw [b6, iN (by omega)]
  exact ⟨x, rfl, fun j hj => hx j (by omega)⟩
 | m + 1, k, x, hk, hx => by
  have e1 : aN 24 ((8 * k : Nat) : Int) = ((24 - 8 * k : Nat) : Int) := by rw [i8 (by omega) (by omega)]; omega
  have e2 : ax ((4 * q : Nat) : Int) (k : Int) = ((4 * q + k : Nat) : Int) := by rw [dS (by omega) (by omega)]; omega
  obtain ⟨y, q1, q2⟩ := EA x0 x1 x3 x4 x5 x6 h q hq x10 m (k + 1) (upd x (4 * q + k) (BitVec.setWidth 8 (h q >>> (24 - 8 * k)))) (by omega) (fun j hj => by
   by_cases e : j = 4 * q + k
   ·subst e
    rw [ji]
    unfold Fz
    rw [show (4 * q + k) / 4 = q by omega, show (4 * q + k) % 4 = k by omega]
   ·rw [oj _ _ e]; exact hx j (by omega))
  refine ⟨y, ?_, q2⟩
  rw [b6, iP (by omega), Jf k (by omega), e1, iP (by omega), Je q (by omega), e2, iP (by omega), iP (by omega), Int.toNat_natCast (4 * q + k), Int.toNat_natCast (24 - 8 * k), inc k (by omega)]
  exact q1
theorem EB (x0 : List B8) (x1 : Nat → B8) (x3 : Nat → W32) (x4 x5 : Nat) (x6 : BitVec 64) (h : Nat → W32) : ∀ (m q : Nat) (x : Nat → B8), q + m = 8 → (∀ j, j < 4 * q → x j = Fz h j) → ∃ y, b7 x0 x1 x x3 x4 x5 x6 h (q : Int) = some y ∧ ∀ j, j < 32 → y j = Fz h j
 | 0, q, x, hq, hx => by
  rw [b7, iN (by omega)]
  exact ⟨x, rfl, fun j hj => hx j (by omega)⟩
 | m + 1, q, x, hq, hx => by
  obtain ⟨y, q1, q2⟩ := EA x0 x1 x3 x4 x5 x6 h q (by omega) (q : Int) 4 0 x (by omega) hx
  obtain ⟨z, q3, q4⟩ := EB x0 x1 x3 x4 x5 x6 h m (q + 1) y (by omega) q2
  refine ⟨z, ?_, q4⟩
  rw [b7, iP (by omega), iP (by omega), iP (by omega), Int.toNat_natCast q, bind_some (show b6 x0 x1 x x3 x4 x5 x6 (q : Int) (h q) h (q : Int) 0 = _ from q1), inc q (by omega)]
  exact q3
def Jh (t : List B8) : List B8 := ((t ++ [128#8]) ++ List.replicate (pz (t.length + 1)) 0#8) ++ B7 t.length
def jI (t : List B8) (i : Nat) : B8 := if i < 32 then Fz (blk H0 (Jh t) ((Jh t).length / 64)) i else 0#8
theorem FA (v : Nat → B8) (n : Nat) (h : ∀ j, j < 8 → v j = BitVec.setWidth 8 ((BitVec.ofNat 64 n * 8#64) >>> (56 - 8 * j))) : AI v 0 8 = B7 n := by
 unfold B7
 show [v 0, v 1, v 2, v 3, v 4, v 5, v 6, v 7] = _
 rw [h 0 (by omega), h 1 (by omega), h 2 (by omega), h 3 (by omega), h 4 (by omega), h 5 (by omega), h 6 (by omega), h 7 (by omega)]
 rfl
theorem IJ {l1 : List B8} {h : Nat → W32} {lo n : Nat} {c : BitVec 64} {t : List B8} (r : Rep l1 h lo n c t) (hs : t.length ≤ 80000000) : i5 l1 h lo n c = some (jI t) := by
 have hn := r.nn
 have hl : (List.take n (List.drop lo l1)).length = n := by rw [r.left]; simp; omega
 have r0 : Rep (List.take n (List.drop lo l1)) h 0 (List.take n (List.drop lo l1)).length c t := by
  refine ⟨r.hh, ?_, ?_, ?_, r.cc⟩
  ·rw [List.drop_zero, List.take_length, r.left]
  ·rw [hl]; exact hn
  ·omega
 obtain ⟨a1, a2, a3, a4, a5, w, r1⟩ := o8 r0 [128#8] (by simp; omega)
 have hp : pz (t ++ [128#8]).length ≤ 64 := by unfold pz; omega
 obtain ⟨b1, b2, b3, b4, b5, w2, r2⟩ := GD l1 (fun _ => 0#8) h lo n c (c * 8#64) _ a1 a2 a3 a4 a5 (t ++ [128#8]) rfl (by simp at hp ⊢; omega) r1
 obtain ⟨y, w3, q3⟩ := GE l1 (fun _ => 0#8) b1 h lo n c b2 b3 b4 b5 (c * 8#64) 8 0 (fun _ => 0#8) (by omega) (fun j hj => by omega)
 have ht : AI y 0 8 = B7 t.length := FA y _ (fun j hj => by rw [q3 j hj, r.cc])
 obtain ⟨d1, d2, d3, d4, d5, w4, r4⟩ := o8 r2 (AI y 0 8) (by rw [ht]; simp [B7] at hp ⊢; omega)
 obtain ⟨z, w5, q5⟩ := EB l1 (fun _ => 0#8) h lo n c d2 8 0 (fun _ => 0#8) (by omega) (fun j hj => by omega)
 unfold i5
 rw [if_pos (decide_eq_true r.fits), if_pos (qt (by simp; omega)), List.nil_append, bind_some w, bind_some w2, bind_some (show cA l1 _ b1 _ h lo n c b2 b3 b4 b5 (c * 8#64) 0 = _ from w3), bind_some w4, bind_some (show b7 l1 _ (fun _ => 0#8) h lo n c d2 0 = _ from w5)]
 congr 1
 funext i
 unfold jI
 by_cases hi : i < 32
 ·rw [Az _ _ hi, if_pos hi, q5 i hi]
  have := r4.hh
  rw [ht, List.length_append, List.length_singleton] at this
  rw [this]
  rfl
 ·rw [if_neg hi]; unfold eD; rw [if_neg (by omega)]
theorem Ji (b : List B8) (hs : b.length ≤ 80000000) : Ai [b] = some (jI b) := by
 have r0 : Rep [] H0 0 0 0#64 [] := ⟨rfl, rfl, rfl, Nat.le_refl _, rfl⟩
 obtain ⟨a1, a2, a3, a4, a5, w, r1⟩ := o8 r0 b (by simp; omega)
 rw [List.nil_append] at r1
 have hN : Ag = some ([], H0, 0#64) := rfl
 have hl : gQ (fun _ => 0#8) [] H0 0 0 0#64 [b] 1 0 = some (a1, a2, a3, a4, a5) := by
  rw [gQ, if_pos (decide_eq_true (by decide)), if_pos (decide_eq_true (by decide)), if_pos (decide_eq_true (by simp))]
  show (cR [] H0 0 0 0#64 b >>= _) = _
  rw [bind_some w, show ax 0 1 = 1 by kernel_rfl, gQ, if_neg (by decide)]
 unfold Ai
 rw [bind_some hN]
 show (gQ (fun _ => 0#8) [] H0 0 0 0#64 [b] 1 0 >>= _) = _
 rw [bind_some hl, bind_some (IJ r1 hs)]
 congr 1
 funext i
 unfold eD jI
 by_cases hi : i < 32
 ·rw [if_pos (by omega), if_pos hi, Nat.sub_zero, if_pos hi]
 ·rw [if_neg (by omega), if_neg hi]
theorem jj {p : ac} (hg : a9 p) (hk : aI p = some (0, 0, 0)) : dn p = some (jI (gq p), 0) := by
 have hl := zC hg
 unfold dn
 rw [bind_some (Dg hg hk)]
 simp only []
 rw [if_neg (by decide), bind_some (Ji (gq p) (by omega))]
 congr 2
 funext i
 unfold eD jI
 by_cases hi : i < 32
 ·rw [if_pos (by omega), if_pos hi, Nat.sub_zero, if_pos hi]
 ·rw [if_neg (by omega), if_neg hi]
abbrev t8 (s : Nat → W32) : W32 × W32 × W32 × W32 × W32 × W32 × W32 × W32 := (s 0, s 1, s 2, s 3, s 4, s 5, s 6, s 7)
abbrev h8 (h : Nat → W32) : List W32 := [h 0, h 1, h 2, h 3, h 4, h 5, h 6, h 7]
def lC (j : ah) (locks : Int) : Bool := if j.kind = 2 then decide (0 ≤ j.lock) && decide (j.lock < locks) else if j.kind = 0 then j.lock == 0 else if j.kind = 1 then j.lock == 0 else false
theorem GF (j : ah) (locks : Int) : kS j locks = some (lC j locks) := by
 unfold kS lC
 by_cases h2 : j.kind = 2
 ·rw [if_pos (eqT h2), if_pos h2]
  by_cases h0 : 0 ≤ j.lock
  ·rw [if_pos (decide_eq_true h0), decide_eq_true h0, Bool.true_and]
  ·rw [if_neg (by simpa using h0), decide_eq_false h0, Bool.false_and]
 ·rw [if_neg (eqF h2), if_neg h2]
  by_cases h0 : j.kind = 0
  ·rw [if_pos (eqT h0), if_pos h0]
  ·rw [if_neg (eqF h0), if_neg h0]
   by_cases h1 : j.kind = 1
   ·rw [if_pos (eqT h1), if_pos h1]
   ·rw [if_neg (eqF h1), if_neg h1]
def acc (x : ad) : Bool := x.kind == 1 || x.kind == 2
def ip (j : ah) (w : Bool) (h l : W32) : Bool := if l = 0#32 then true else if j.kind = 1 then !w else if j.kind = 2 then eC h j.lock else false
theorem GG (j : ah) (w : Bool) (h l : W32) : kT j w h l = some (ip j w h l) := by
 unfold kT ip
 by_cases h0 : l = 0#32
 ·rw [if_pos (by simpa using h0), if_pos h0]
 ·rw [if_neg (by simpa using h0), if_neg h0]
  by_cases h1 : j.kind = 1
  ·rw [if_pos (eqT h1), if_pos h1]
  ·rw [if_neg (eqF h1), if_neg h1]
   by_cases h2 : j.kind = 2
   ·rw [if_pos (eqT h2), if_pos h2, bind_some (show cK h j.lock = some (eC h j.lock) from ns _ _)]
   ·rw [if_neg (eqF h2), if_neg h2]
theorem zH (x : ad) : jo x = some (x.arg, x.kind == 2, acc x) := by
 unfold jo acc
 by_cases h : x.kind = 1
 ·rw [if_pos (eqT h), eqT h]; rfl
 ·rw [if_neg (eqF h), show (x.kind == 1) = false by simpa using h]; rfl
abbrev jus (js : List ah) (i : Int) : ah := List.getD js i.toNat am
def grd (p : ac) (l : List ab) (js : List ah) (f i : Nat) : Bool := !acc (nde p f i) || ip (jus js (nde p f i).arg) ((nde p f i).kind == 2) (hld l f i) (liv l f i)
def Di (p : ac) (l : List ab) (js : List ah) (f i : Nat) : Option Unit := if grd p l js f i = true then none else some ()
def m16 : Option (Nat × Unit) → cE
 | some (k, _) => .x0 k 8 0
 | none => .x1
theorem zI (p : ac) (hg : a9 p) (l : List ab) (hs : Shp p l) (js : List ah) (hj : (js.length : Int) = p.globals) (f : Nat) (hf : f < p.funcs.length) (x7 x8 : Int) : ∀ (m i : Nat), i + m = (List.getD p.funcs f []).length → cm 0 0 0 l js (f : Int) p.funcs x7 x8 (List.getD p.funcs f []) ((List.getD p.funcs f []).length : Int) (i : Int) = some (m16 (bG (Di p l js f) i m))
 | 0, i, h => by rw [cm, iN (by omega)]; rfl
 | m + 1, i, h => by
  have hle := hg.le f
  have ih := zI p hg l hs js hj f hf x7 x8 m (i + 1) (by omega)
  have hl := hs.1
  have h1 : (List.getD l f aa).held.length = (List.getD p.funcs f []).length := (hs.2 f hf).1
  have h2 : (List.getD l f aa).live.length = (List.getD p.funcs f []).length := (hs.2 f hf).2
  have hgl : acc (nde p f i) = true → 0 ≤ (nde p f i).arg ∧ (nde p f i).arg < p.globals := fun ha => (hg.node f i hf (by omega)).glob (by simpa [acc] using ha)
  have hsolo : iw (List.getD l f aa) (i : Int) = some (liv l f i == 0#32) := by
   unfold iw
   rw [iP (by omega), iP (by omega), iP (by omega), iP (by omega), Int.toNat_natCast i]
  rw [cm, iP (by omega), iP (by omega), iP (by omega), Int.toNat_natCast i, bind_some (zH _), inc i (by omega), fv, Int.toNat_natCast f]
  unfold Di
  by_cases ha : acc (nde p f i) = true
  ·have hg2 := hgl ha
   have hg2 : 0 ≤ (List.getD (List.getD p.funcs f []) i ae).arg ∧ (List.getD (List.getD p.funcs f []) i ae).arg < p.globals := hg2
   by_cases h0 : liv l f i = 0#32
   ·rw [if_pos ha, iP (by omega), iP (by omega), bind_some (show iw (List.getD l f aa) (i : Int) = some true by rw [hsolo, h0]; rfl), if_neg (by decide), if_pos (by unfold grd ip; rw [if_pos h0]; simp), ih]
    rfl
   ·rw [if_pos ha, iP (by omega), iP (by omega), bind_some (show iw (List.getD l f aa) (i : Int) = some false by rw [hsolo, show (liv l f i == 0#32) = false by simpa using h0]), if_pos (by decide), if_pos (decide_eq_true hg2.1), iP (by omega), iP (by omega), iP (by omega), bind_some (GG _ _ _ _)]
    have hgr : grd p l js f i = ip (jus js (nde p f i).arg) ((nde p f i).kind == 2) (hld l f i) (liv l f i) := by unfold grd; rw [ha]; simp
    cases hh : ip (jus js (nde p f i).arg) ((nde p f i).kind == 2) (hld l f i) (liv l f i) with
    | true =>
     rw [if_neg (by decide), if_pos (hgr.trans hh), ih]
     rfl
    | false =>
     rw [if_pos (by decide), if_neg (by rw [hgr, hh]; decide)]
     rfl
  ·rw [if_neg ha, if_pos (by unfold grd; rw [show acc (nde p f i) = false by simpa using ha]; rfl), ih]
   rfl
def fgO (p : ac) (l : List ab) (js : List ah) (f : Nat) : Option Nat := (bG (Di p l js f) 0 (List.getD p.funcs f []).length).map fun x => x.1
def JE : Option (Nat × Nat) → cF
 | some (f, k) => .x0 f k 8 0
 | none => .x1
theorem zJ (p : ac) (hg : a9 p) (l : List ab) (hs : Shp p l) (js : List ah) (hj : (js.length : Int) = p.globals) : ∀ (m f : Nat), f + m = p.funcs.length → dH 0 0 0 l js p.funcs (p.funcs.length : Int) (f : Int) = some (JE (bG (fgO p l js) f m))
 | 0, f, h => by rw [dH, iN (by omega)]; rfl
 | m + 1, f, h => by
  have hn := hg.funcs.2
  have h16 := zI p hg l hs js hj f (by omega) (p.funcs.length : Int) (f : Int) (List.getD p.funcs f []).length 0 (by omega)
  rw [show ((0 : Nat) : Int) = 0 from rfl] at h16
  rw [dH, iP (by omega), iP (by omega), iP (by omega), Int.toNat_natCast f, bind_some h16, inc f (by omega), zJ p hg l hs js hj m (f + 1) (by omega), fv]
  unfold fgO
  cases bG (Di p l js f) 0 (List.getD p.funcs f []).length with
  | none => rfl
  | some z => rfl
def Dj (p : ac) (js : List ah) (i : Nat) : Option Unit := if lC (List.getD js i am) p.locks = true then none else some ()
def m7g : Option (Nat × Unit) → da
 | some (k, _) => .x0 (-1) k 8 0
 | none => .x1
theorem B9 (p : ac) (l : List ab) (js : List ah) (hj : js.length ≤ 1000) : ∀ (m i : Nat), i + m = js.length → ee p.globals p.locks p.slots p.funcs 0 0 0 l js js (js.length : Int) (i : Int) = some (m7g (bG (Dj p js) i m))
 | 0, i, h => by rw [ee, iN (by omega)]; rfl
 | m + 1, i, h => by
  rw [ee, iP (by omega), iP (by omega), iP (by omega), Int.toNat_natCast i, bind_some (GF _ _), inc i (by omega), B9 p l js hj m (i + 1) (by omega), fv]
  unfold Dj
  cases hr : lC (List.getD js i am) p.locks with
  | true => rw [if_neg (by decide), if_pos rfl]
  | false => rw [if_pos (by decide), if_neg (by decide)]; rfl
def fp (p : ac) (l : List ab) (js : List ah) : aC := match bG (Dj p js) 0 js.length with
 | some (j, _) => ⟨-1, j, 8⟩
 | none => match bG (fgO p l js) 0 p.funcs.length with
  | some (f, k) => ⟨f, k, 8⟩
  | none => ⟨0, 0, 0⟩
theorem Dk (p : ac) (hg : a9 p) (hk : aI p = some (0, 0, 0)) (l : List ab) (hs : Shp p l) (js : List ah) (hj : (js.length : Int) = p.globals) : gN p l js = some (fp p l js, 0) := by
 have hn := hg.funcs.2
 have hgl := hg.globals.2
 obtain ⟨b, b1, _, b2⟩ := sA p l (by omega)
 have hb := b2.2 hs
 have h7 := B9 p l js (by omega) js.length 0 (by omega)
 have h13 := zJ p hg l hs js hj p.funcs.length 0 (by omega)
 rw [show ((0 : Nat) : Int) = 0 from rfl] at h7 h13
 unfold gN
 rw [bind_some hk, if_neg (show ¬ ((0 : Int) != 0) = true by decide), bind_some b1, hb, if_neg (by decide), if_neg (neF hj), bind_some h7]
 unfold fp
 cases bG (Dj p js) 0 js.length with
 | some y => rfl
 | none =>
  dsimp only [m7g]
  rw [bind_some h13]
  cases bG (fgO p l js) 0 p.funcs.length with
  | some y => rfl
  | none => rfl
theorem Ca {p : ac} {l : List ab} {js : List ah} : (fp p l js).what = 0 ↔ (∀ i, i < js.length → lC (List.getD js i am) p.locks = true) ∧ ∀ f i, f < p.funcs.length → i < (List.getD p.funcs f []).length → grd p l js f i = true := by
 unfold fp
 cases hq : bG (Dj p js) 0 js.length with
 | some y =>
  have h1 := fP hq
  constructor
  ·intro h; exact absurd h (by show ¬ (8 : Int) = 0; decide)
  ·rintro ⟨h2, _⟩
   have h3 := h1.2.2
   unfold Dj at h3
   rw [if_pos (h2 y.1 (by omega))] at h3
   cases h3
 | none =>
  have hr : ∀ i, i < js.length → lC (List.getD js i am) p.locks = true := fun i hi => by
   have := eY hq i (Nat.zero_le _) (by omega)
   unfold Dj at this
   split at this
   ·assumption
   ·cases this
  cases hq2 : bG (fgO p l js) 0 p.funcs.length with
  | some y =>
   have h1 := fP hq2
   constructor
   ·intro h; exact absurd h (by show ¬ (8 : Int) = 0; decide)
   ·rintro ⟨_, h2⟩
    have h3 := h1.2.2
    unfold fgO at h3
    rw [jM fun k _ hk => by unfold Di; rw [if_pos (h2 y.1 k (by omega) (by omega))]] at h3
    cases h3
  | none =>
   refine ⟨fun _ => ⟨hr, fun f i hf hi => ?_⟩, fun _ => rfl⟩
   have h1 := eY hq2 f (Nat.zero_le _) (by omega)
   unfold fgO at h1
   cases hq3 : bG (Di p l js f) 0 (List.getD p.funcs f []).length with
   | some z => rw [hq3] at h1; cases h1
   | none =>
    have h3 := eY hq3 i (Nat.zero_le _) (by omega)
    unfold Di at h3
    split at h3
    ·assumption
    ·cases h3
theorem zK (f g : Nat → B8) : ∀ l : List Nat, ui (fun a b => ((BitVec.toNat a : Nat) : Int) == ((BitVec.toNat b : Nat) : Int)) f g l = true ↔ ∀ i ∈ l, f i = g i
 | [] => by simp [ui]
 | i :: l => by
  show ((((BitVec.toNat (f i) : Nat) : Int) == ((BitVec.toNat (g i) : Nat) : Int)) && ui _ f g l) = true ↔ _
  rw [Bool.and_eq_true, zK f g l, beq_iff_eq, Int.ofNat_inj, BitVec.toNat_inj]
  simp
theorem lc (f g : Nat → B8) : ui (fun a b => ((BitVec.toNat a : Nat) : Int) == ((BitVec.toNat b : Nat) : Int)) f g (List.range 32) = true ↔ ∀ i, i < 32 → f i = g i := by
 rw [zK]; simp
instance sameDec (f g : Nat → B8) : Decidable (∀ i, i < 32 → f i = g i) := decidable_of_iff _ (lc f g)
theorem xx (t : List B8) : eD (fun _ => 0#8) 0 32 (jI t) = jI t := by
 funext i
 unfold eD jI
 by_cases hi : i < 32
 ·rw [if_pos (by omega), if_pos hi, Nat.sub_zero, if_pos hi]
 ·rw [if_neg (by omega), if_neg hi]
def orF (a b : aC) : aC := if a.what = 0 then b else a
def r54 (a : aC) : cp := if a.what = 0 then .x1 else .x0 a.func a.node a.what 0
def r53 (a : aC) : cq := if a.what = 0 then .x1 else .x0 a.func a.node a.what 0
def r52 (a : aC) : cr := if a.what = 0 then .x1 else .x0 a.func a.node a.what 0
def r51 (a : aC) : ct := if a.what = 0 then .x1 else .x0 a.func a.node a.what 0
def r50 (a : aC) : db := if a.what = 0 then .x1 else .x0 a.func a.node a.what 0
theorem GH (p : ac) (hg : a9 p) (hk : aI p = some (0, 0, 0)) (c : aD) (hs : Shp p c.sections) (hj : (c.justs.length : Int) = p.globals) : gc p.globals p.locks p.slots p.funcs c.digest c.sections c.justs 0 0 0 = some (r54 (fp p c.sections c.justs)) := by
 unfold gc ny
 rw [bind_some (show (bind (gN (ac.mk p.globals p.locks p.slots p.funcs) (aD.mk c.digest c.sections c.justs).sections (aD.mk c.digest c.sections c.justs).justs) fun v1 => some (v1.1, v1.2)) = some (fp p c.sections c.justs, 0) by rw [show gN (ac.mk p.globals p.locks p.slots p.funcs) (aD.mk c.digest c.sections c.justs).sections (aD.mk c.digest c.sections c.justs).justs = some (fp p c.sections c.justs, 0) from Dk p hg hk c.sections hs c.justs hj]; rfl)]
 dsimp only
 rw [if_neg (by decide)]
 unfold r54
 by_cases h : (fp p c.sections c.justs).what = 0
 ·rw [if_neg (neF h), if_pos h]; rfl
 ·rw [if_pos (neT h), if_neg h]
theorem GI (p : ac) (hg : a9 p) (hk : aI p = some (0, 0, 0)) (c : aD) (hs : Shp p c.sections) (hj : (c.justs.length : Int) = p.globals) (a : aC) (ha : eG p c.sections = some (a, 0)) : gd p.globals p.locks p.slots p.funcs c.digest c.sections c.justs 0 0 0 = some (r53 (orF a (fp p c.sections c.justs))) := by
 unfold gd
 rw [bind_some (show mr (ac.mk p.globals p.locks p.slots p.funcs) (aD.mk c.digest c.sections c.justs) = some (a, 0) by unfold mr; rw [show eG _ _ = some (a, 0) from ha]; rfl)]
 dsimp only
 rw [if_neg (by decide)]
 unfold r53 orF
 by_cases h : a.what = 0
 ·rw [if_neg (neF h), if_pos h, bind_some (GH p hg hk c hs hj)]
  unfold r54
  by_cases h2 : (fp p c.sections c.justs).what = 0
  ·rw [if_pos h2, if_pos h2]
  ·rw [if_neg h2, if_neg h2]
 ·rw [if_pos (neT h), if_neg h, if_neg h]
theorem GJ (p : ac) (hg : a9 p) (hk : aI p = some (0, 0, 0)) (c : aD) (hs : Shp p c.sections) (hj : (c.justs.length : Int) = p.globals) (b a : aC) (hb : ez p c.sections = some (b, 0)) (ha : eG p c.sections = some (a, 0)) : gf p.globals p.locks p.slots p.funcs c.digest c.sections c.justs 0 0 0 = some (r52 (orF b (orF a (fp p c.sections c.justs)))) := by
 unfold gf
 rw [bind_some (show m9 (ac.mk p.globals p.locks p.slots p.funcs) (aD.mk c.digest c.sections c.justs) = some (b, 0) by unfold m9; rw [show ez _ _ = some (b, 0) from hb]; rfl)]
 dsimp only
 rw [if_neg (by decide)]
 unfold r52
 by_cases h : b.what = 0
 ·rw [if_neg (neF h), show orF b (orF a (fp p c.sections c.justs)) = orF a (fp p c.sections c.justs) from if_pos h, bind_some (GI p hg hk c hs hj a ha)]
  unfold r53
  by_cases h2 : (orF a (fp p c.sections c.justs)).what = 0
  ·rw [if_pos h2, if_pos h2]
  ·rw [if_neg h2, if_neg h2]
 ·rw [if_pos (neT h), show orF b (orF a (fp p c.sections c.justs)) = b from if_neg h, if_neg h]
theorem Dl (p : ac) (hg : a9 p) (hk : aI p = some (0, 0, 0)) (c : aD) : jq p c = some (if (∀ i, i < 32 → jI (gq p) i = c.digest i) then ⟨0, 0, 0⟩ else ⟨-1, -1, 9⟩, 0) := by
 unfold jq
 rw [bind_some (jj hg hk)]
 dsimp only
 rw [if_neg (by decide), xx]
 by_cases h : ∀ i, i < 32 → jI (gq p) i = c.digest i
 ·rw [(lc _ _).2 h, if_neg (by decide), if_pos h]
 ·rw [if_pos (by
   cases hv : ui (fun a b => ((BitVec.toNat a : Nat) : Int) == ((BitVec.toNat b : Nat) : Int)) (jI (gq p)) c.digest (List.range 32) with
   | true => exact absurd ((lc _ _).1 hv) h
   | false => rfl), if_neg h]
  rfl
def iS (p : ac) (c : aD) (b a : aC) : aC :=
 if ∀ i, i < 32 → jI (gq p) i = c.digest i then orF b (orF a (fp p c.sections c.justs)) else ⟨-1, -1, 9⟩
theorem GK (p : ac) (hg : a9 p) (hk : aI p = some (0, 0, 0)) (c : aD) (hs : Shp p c.sections) (hj : (c.justs.length : Int) = p.globals) (b a : aC) (hb : ez p c.sections = some (b, 0)) (ha : eG p c.sections = some (a, 0)) : gg p.globals p.locks p.slots p.funcs c.digest c.sections c.justs 0 0 0 = some (r51 (iS p c b a)) := by
 unfold gg
 rw [bind_some (show jq (ac.mk p.globals p.locks p.slots p.funcs) (aD.mk c.digest c.sections c.justs) = _ from Dl p hg hk c)]
 dsimp only
 rw [if_neg (by decide)]
 unfold iS
 by_cases h : ∀ i, i < 32 → jI (gq p) i = c.digest i
 ·rw [if_pos h, if_pos h, if_neg (by decide), bind_some (GJ p hg hk c hs hj b a hb ha)]
  unfold r52 r51
  by_cases h2 : (orF b (orF a (fp p c.sections c.justs))).what = 0
  ·rw [if_pos h2, if_pos h2]
  ·rw [if_neg h2, if_neg h2]
 ·rw [if_neg h, if_neg h, if_pos (by decide)]; rfl
theorem Dm (p : ac) (hg : a9 p) (hk : aI p = some (0, 0, 0)) (c : aD) (hs : Shp p c.sections) (hj : (c.justs.length : Int) = p.globals) (b a : aC) (hb : ez p c.sections = some (b, 0)) (ha : eG p c.sections = some (a, 0)) : eN p c = some (if (iS p c b a).what = 0 then ⟨0, 0, 0⟩ else iS p c b a, 0) := by
 have hn := hg.funcs.2
 obtain ⟨q, q1, _, q2⟩ := sA p c.sections (by omega)
 have hq := q2.2 hs
 have hsh : gT (ac.mk p.globals p.locks p.slots p.funcs) (aD.mk c.digest c.sections c.justs) = some (⟨0, 0, 0⟩, 0) := by
  unfold gT
  rw [bind_some (show dD (ac.mk p.globals p.locks p.slots p.funcs) (aD.mk c.digest c.sections c.justs).sections = some q from q1), hq, if_neg (by decide), if_neg (neF hj)]
 have h5 : fl p.globals p.locks p.slots p.funcs c.digest c.sections c.justs 0 0 0 = some (r50 (iS p c b a)) := by
  unfold fl
  rw [bind_some hsh]
  dsimp only
  rw [if_neg (by decide), if_neg (by decide), bind_some (GK p hg hk c hs hj b a hb ha)]
  unfold r51 r50
  by_cases h2 : (iS p c b a).what = 0
  ·rw [if_pos h2, if_pos h2]
  ·rw [if_neg h2, if_neg h2]
 unfold eN
 rw [bind_some (jj hg hk)]
 dsimp only
 rw [if_neg (by decide), bind_some h5]
 unfold r50
 by_cases h2 : (iS p c b a).what = 0
 ·rw [if_pos h2, if_pos h2]
 ·rw [if_neg h2, if_neg h2]
theorem mS (p : ac) (hg : a9 p) (hk : aI p = some (0, 0, 0)) (c : aD) (hs : Shp p c.sections) (hj : (c.justs.length : Int) = p.globals) (b a : aC) (hb : ez p c.sections = some (b, 0)) (ha : eG p c.sections = some (a, 0)) : bQ p c = some ((iS p c b a).what == 0) := by
 unfold bQ
 rw [bind_some (Dm p hg hk c hs hj b a hb ha)]
 dsimp only
 rw [if_pos (by decide)]
 by_cases h2 : (iS p c b a).what = 0
 ·rw [if_pos h2, h2]
 ·rw [if_neg h2]
theorem tq (p : ac) (c : aD) (b a : aC) : (iS p c b a).what = 0 ↔ (∀ i, i < 32 → jI (gq p) i = c.digest i) ∧ b.what = 0 ∧ a.what = 0 ∧ (fp p c.sections c.justs).what = 0 := by
 unfold iS orF
 by_cases h : ∀ i, i < 32 → jI (gq p) i = c.digest i
 ·rw [if_pos h]
  by_cases hb : b.what = 0
  ·rw [if_pos hb]
   by_cases ha : a.what = 0
   ·rw [if_pos ha]; exact ⟨fun x => ⟨h, hb, ha, x⟩, fun x => x.2.2.2⟩
   ·rw [if_neg ha]; exact ⟨fun x => absurd x ha, fun x => absurd x.2.2.1 ha⟩
  ·rw [if_neg hb]; exact ⟨fun x => absurd x hb, fun x => absurd x.2.1 hb⟩
 ·rw [if_neg h]
  exact ⟨fun x => absurd x (by decide), fun x => absurd x.1 h⟩
theorem uL (p : ac) (hg : a9 p) (hk : aI p = some (0, 0, 0)) (c : aD) (h : ¬ (Shp p c.sections ∧ (c.justs.length : Int) = p.globals)) : eN p c = some (⟨-1, -1, 1⟩, 0) := by
 have hn := hg.funcs.2
 obtain ⟨q, q1, _, q2⟩ := sA p c.sections (by omega)
 have hsh : gT (ac.mk p.globals p.locks p.slots p.funcs) (aD.mk c.digest c.sections c.justs) = some (⟨-1, -1, 1⟩, 0) := by
  unfold gT
  rw [bind_some (show dD (ac.mk p.globals p.locks p.slots p.funcs) (aD.mk c.digest c.sections c.justs).sections = some q from q1)]
  cases q with
  | false => rw [if_pos (by decide)]; rfl
  | true =>
   have hs := q2.1 rfl
   rw [if_neg (by decide), if_pos (neT fun hj => h ⟨hs, hj⟩)]
   rfl
 have h5 : fl p.globals p.locks p.slots p.funcs c.digest c.sections c.justs 0 0 0 = some (.x0 (-1) (-1) 1 0) := by
  unfold fl
  rw [bind_some hsh]
  dsimp only
  rw [if_neg (by decide), if_pos (by decide)]
 unfold eN
 rw [bind_some (jj hg hk)]
 dsimp only
 rw [if_neg (by decide), bind_some h5]
theorem Cb {p : ac} {a b e : Int} (hk : aI p = some (a, b, e)) (he : e ≠ 0) : dn p = some (eD (fun _ => 0#8) 0 32 (fun _ => 0#8), e) := by
 unfold dn
 rw [bind_some (Fx hk he)]
 simp only []
 rw [if_pos (by simpa using he)]
abbrev p0 : ac := ⟨0, 0, 0, [[⟨9, 0, 0, 0⟩]]⟩
abbrev l0 : List ab := [⟨0#32, 0#32, [0#32], 0#32, 0#32, [0#32]⟩]
theorem rX : aI p0 = some (0, 0, 0) := yw 40 _ _ (by kernel_rfl)
theorem o9 : a9 p0 := by
 obtain ⟨r, h1, h2, _⟩ := yV p0
 rw [rX] at h1
 cases h1
 exact (h2 rfl).2
theorem FB (p : ac) {a b e : Int} (hk : aI p = some (a, b, e)) (he : e ≠ 0) (c : aD) : eN p c = some (⟨0, 0, 0⟩, e) ∧ bQ p c = some false := by
 have h : eN p c = some (⟨0, 0, 0⟩, e) := by
  unfold eN
  rw [bind_some (Cb hk he)]
  dsimp only
  rw [if_pos (neT he)]
 refine ⟨h, ?_⟩
 unfold bQ
 rw [bind_some h]
 dsimp only
 rw [if_neg (eqF he)]
theorem JF (c : aD) : ∃ b, gW c = some b := by
 unfold gW
 by_cases h1 : (c.sections.length : Int) > 40
 ·rw [if_pos (decide_eq_true h1)]; exact ⟨_, rfl⟩
 ·rw [if_neg (by simpa using h1)]
  by_cases h2 : (c.justs.length : Int) > 40
  ·rw [if_pos (decide_eq_true h2)]; exact ⟨_, rfl⟩
  ·rw [if_neg (by simpa using h2)]
   have key : ∀ (m i : Nat), i + m = c.sections.length → ∃ r, bY c.digest c.sections c.justs (i : Int) = some r := by
    intro m
    induction m with
    | zero => intro i hi; rw [bY, iN (by omega)]; exact ⟨_, rfl⟩
    | succ m ih =>
     intro i hi
     rw [bY, iP (by omega), iP (by omega), iP (by omega), inc i (by omega)]
     split
     ·exact ⟨_, rfl⟩
     ·split
      ·exact ⟨_, rfl⟩
      ·exact ih (i + 1) (by omega)
   obtain ⟨r, hr⟩ := key c.sections.length 0 (by omega)
   rw [bind_some (show bY _ _ _ 0 = _ from hr)]
   cases r with
   | x0 v => exact ⟨v, rfl⟩
   | x1 => exact ⟨true, rfl⟩
theorem vc {q : Nat → Bool} : ∀ {m i k : Nat}, i ≤ k → k < i + m → q k = true → (∀ j, i ≤ j → j < k → q j = false) → jG q i m = some k
 | 0, i, k, h1, h2, _, _ => by omega
 | m + 1, i, k, h1, h2, h3, h4 => by
  unfold jG
  rcases Nat.eq_or_lt_of_le h1 with rfl | h5
  ·rw [if_pos h3]
  ·rw [if_neg (by rw [h4 i (Nat.le_refl _) h5]; decide)]
   exact vc h5 (by omega) h3 fun j h6 h7 => h4 j (by omega) h7
theorem EC {q : Nat → Bool} : ∀ {m i : Nat}, (∀ j, i ≤ j → j < i + m → q j = false) → jG q i m = none
 | 0, i, _ => rfl
 | m + 1, i, h => by
  unfold jG
  rw [if_neg (by rw [h i (Nat.le_refl _) (by omega)]; decide)]
  exact EC fun j h1 h2 => h j (by omega) (by omega)
def iT (q : Nat → Bool) : Nat → Nat → Bool
 | _, 0 => false
 | i, m + 1 => q i || iT q (i + 1) m
theorem jk {q : Nat → Bool} : ∀ {m i : Nat}, iT q i m = true ↔ ∃ k, i ≤ k ∧ k < i + m ∧ q k = true
 | 0, i => ⟨fun h => (by cases h), fun ⟨k, h1, h2, _⟩ => by omega⟩
 | m + 1, i => by
  unfold iT
  rw [Bool.or_eq_true, jk]
  constructor
  ·rintro (h | ⟨k, h1, h2, h3⟩)
   ·exact ⟨i, Nat.le_refl _, by omega, h⟩
   ·exact ⟨k, by omega, by omega, h3⟩
  ·rintro ⟨k, h1, h2, h3⟩
   rcases Nat.eq_or_lt_of_le h1 with rfl | h4
   ·exact .inl h3
   ·exact .inr ⟨k, h4, by omega, h3⟩
def iq (p : ac) (l : List ab) (g : Int) (f i : Nat) : Bool := (acc (nde p f i) && ((nde p f i).arg == g)) && !(liv l f i == 0#32)
def nl (p : ac) (l : List ab) (g : Int) (f : Nat) : Nat → Nat → List W32
 | _, 0 => []
 | i, m + 1 => (if iq p l g f i = true then [hld l f i] else []) ++ nl p l g f (i + 1) m
def nwB (p : ac) (l : List ab) (g : Int) (f i : Nat) : Bool := iq p l g f i && ((nde p f i).kind == 2)
def nlF (p : ac) (l : List ab) (g : Int) : Nat → Nat → List W32
 | _, 0 => []
 | f, m + 1 => nl p l g f 0 (List.getD p.funcs f []).length ++ nlF p l g (f + 1) m
theorem Dn (p : ac) (l : List ab) (g : Int) (f : Nat) : ∀ (m i : Nat), (nl p l g f i m).length ≤ m
 | 0, i => Nat.le_refl _
 | m + 1, i => by
  have := Dn p l g f m (i + 1)
  unfold nl
  rw [List.length_append]
  split <;> simp <;> omega
theorem GL (p : ac) (l : List ab) (g : Int) (f : Nat) (y : W32) : ∀ (m i : Nat), y ∈ nl p l g f i m ↔ ∃ k, i ≤ k ∧ k < i + m ∧ iq p l g f k = true ∧ y = hld l f k
 | 0, i => ⟨fun h => (by cases h), fun ⟨k, h1, h2, _⟩ => by omega⟩
 | m + 1, i => by
  unfold nl
  rw [List.mem_append, GL p l g f y m (i + 1)]
  constructor
  ·rintro (h | ⟨k, h1, h2, h3⟩)
   ·split at h
    ·rename_i hn
     exact ⟨i, Nat.le_refl _, by omega, hn, List.mem_singleton.1 h⟩
    ·cases h
   ·exact ⟨k, by omega, by omega, h3⟩
  ·rintro ⟨k, h1, h2, h3, h4⟩
   rcases Nat.eq_or_lt_of_le h1 with rfl | h5
   ·rw [if_pos h3, h4]; exact .inl (List.mem_singleton.2 rfl)
   ·exact .inr ⟨k, h5, by omega, h3, h4⟩
theorem ED (p : ac) (l : List ab) (g : Int) (y : W32) : ∀ (m f : Nat), y ∈ nlF p l g f m ↔ ∃ h, f ≤ h ∧ h < f + m ∧ ∃ k, k < (List.getD p.funcs h []).length ∧ iq p l g h k = true ∧ y = hld l h k
 | 0, f => ⟨fun h => (by cases h), fun ⟨k, h1, h2, _⟩ => by omega⟩
 | m + 1, f => by
  unfold nlF
  rw [List.mem_append, GL, ED p l g y m (f + 1)]
  constructor
  ·rintro (⟨k, _, h2, h3⟩ | ⟨k, h1, h2, h3⟩)
   ·exact ⟨f, Nat.le_refl _, by omega, k, by omega, h3⟩
   ·exact ⟨k, by omega, by omega, h3⟩
  ·rintro ⟨h, h1, h2, k, h3, h4⟩
   rcases Nat.eq_or_lt_of_le h1 with rfl | h5
   ·exact .inl ⟨k, Nat.zero_le _, by omega, h4⟩
   ·exact .inr ⟨h, h5, by omega, k, h3, h4⟩
theorem Cc (p : ac) (hg : a9 p) (l : List ab) (hs : Shp p l) (g : Int) (f : Nat) (hf : f < p.funcs.length) (x9 x10 : Int) : ∀ (m i : Nat) (t : List W32) (w : Bool), i + m = (List.getD p.funcs f []).length → t.length + m ≤ 100000 →
  bq t p.globals p.locks p.slots p.funcs l g w (f : Int) x9 x10 (List.getD p.funcs f []) ((List.getD p.funcs f []).length : Int) (i : Int) = some (t ++ nl p l g f i m, w || iT (nwB p l g f) i m)
 | 0, i, t, w, h, ht => by
  rw [bq, iN (by omega)]
  simp [nl, iT]
 | m + 1, i, t, w, h, ht => by
  have hle := hg.le f
  have hl := hs.1
  have ih := fun t w => Cc p hg l hs g f hf x9 x10 m (i + 1) t w (by omega)
  have h1 : (List.getD l f aa).held.length = (List.getD p.funcs f []).length := (hs.2 f hf).1
  have h2 : (List.getD l f aa).live.length = (List.getD p.funcs f []).length := (hs.2 f hf).2
  have hsolo : iw (List.getD l f aa) (i : Int) = some (liv l f i == 0#32) := by
   unfold iw
   rw [iP (by omega), iP (by omega), iP (by omega), iP (by omega), Int.toNat_natCast i]
  have skip : iq p l g f i = false → some (t ++ nl p l g f (i + 1) m, w || iT (nwB p l g f) (i + 1) m) = some (t ++ nl p l g f i (m + 1), w || iT (nwB p l g f) i (m + 1)) := fun hn => by
   rw [show nl p l g f i (m + 1) = nl p l g f (i + 1) m by unfold nl; rw [if_neg (by rw [hn]; decide)]; cases m <;> rfl, show iT (nwB p l g f) i (m + 1) = iT (nwB p l g f) (i + 1) m by
    rw [show iT (nwB p l g f) i (m + 1) = (nwB p l g f i || iT (nwB p l g f) (i + 1) m) from rfl]
    unfold nwB
    rw [hn]
    rfl]
  rw [bq, iP (by omega), iP (by omega), iP (by omega), Int.toNat_natCast i, bind_some (zH _), inc i (by omega)]
  cases ha : acc (nde p f i) with
  | false =>
   dsimp only
   rw [if_pos (by decide), ih t w (by omega)]
   exact skip (by unfold iq; rw [ha]; rfl)
  | true =>
   dsimp only
   rw [if_neg (by decide)]
   by_cases hgg : (nde p f i).arg = g
   ·rw [if_neg (neF hgg), iP (by omega), iP (by omega), Int.toNat_natCast f, bind_some hsolo]
    cases h0 : (liv l f i == 0#32) with
    | true =>
     rw [if_pos rfl, ih t w (by omega)]
     exact skip (by unfold iq; rw [h0]; simp)
    | false =>
     have hn : iq p l g f i = true := by unfold iq; rw [h0, ha, eqT hgg]; rfl
     rw [if_neg (by decide), iN (by omega), iP (by omega), if_pos (Nat.ble_eq_true_of_le (by simp only [List.length_singleton, aK]; omega))]
     have e1 : nl p l g f i (m + 1) = [hld l f i] ++ nl p l g f (i + 1) m := by
      rw [show nl p l g f i (m + 1) = (if iq p l g f i = true then [hld l f i] else []) ++ nl p l g f (i + 1) m from rfl, if_pos hn]
     have e2 : iT (nwB p l g f) i (m + 1) = ((nde p f i).kind == 2 || iT (nwB p l g f) (i + 1) m) := by
      rw [show iT (nwB p l g f) i (m + 1) = (nwB p l g f i || iT (nwB p l g f) (i + 1) m) from rfl]
      unfold nwB
      rw [hn, Bool.true_and]
     rw [e1, e2, ← List.append_assoc]
     cases w with
     | true => rw [if_pos rfl, ih _ true (by simp; omega)]; rfl
     | false => rw [if_neg (by decide), ih _ _ (by simp; omega)]; rfl
   ·rw [if_pos (neT hgg), ih t w (by omega)]
    exact skip (by unfold iq; rw [show ((nde p f i).arg == g) = false by simpa using hgg]; simp)
theorem EE (p : ac) (hg : a9 p) (l : List ab) (g : Int) : ∀ (m f : Nat), (nlF p l g f m).length ≤ 64 * m
 | 0, f => Nat.le_refl _
 | m + 1, f => by
  have h1 := Dn p l g f (List.getD p.funcs f []).length 0
  have h2 := EE p hg l g m (f + 1)
  have h3 := hg.le f
  unfold nlF
  rw [List.length_append]
  omega
theorem Cd (p : ac) (hg : a9 p) (l : List ab) (hs : Shp p l) (g : Int) : ∀ (m f : Nat) (t : List W32) (w : Bool), f + m = p.funcs.length → t.length + 64 * m ≤ 50000 →
  dB t p.globals p.locks p.slots p.funcs l g w (p.funcs.length : Int) (f : Int) = some (t ++ nlF p l g f m, w || iT (fun f => iT (nwB p l g f) 0 (List.getD p.funcs f []).length) f m)
 | 0, f, t, w, h, ht => by
  rw [dB, iN (by omega)]
  simp [nlF, iT]
 | m + 1, f, t, w, h, ht => by
  have hn := hg.funcs.2
  have hle := hg.le f
  have h1 := Dn p l g f (List.getD p.funcs f []).length 0
  have h7 := Cc p hg l hs g f (by omega) (p.funcs.length : Int) (f : Int) (List.getD p.funcs f []).length 0 t w (by omega) (by omega)
  rw [dB, iP (by omega), iP (by omega), iP (by omega), Int.toNat_natCast f, bind_some (show bq t p.globals p.locks p.slots p.funcs l g w (f : Int) _ _ _ _ 0 = _ from h7), inc f (by omega)]
  dsimp only
  rw [Cd p hg l hs g m (f + 1) _ _ (by omega) (by rw [List.length_append]; omega), List.append_assoc, Bool.or_assoc]
  rfl
theorem EF (l : List W32) (hl : l.length ≤ 100000) : ∀ (m i : Nat) (x : W32), i + m = l.length → ∃ y, eW x l (l.length : Int) (i : Int) = some y ∧ ∀ b, y.getLsbD b = true ↔ x.getLsbD b = true ∧ ∀ k, i ≤ k → k < l.length → (List.getD l k 0#32).getLsbD b = true
 | 0, i, x, h => by
  rw [eW, iN (by omega)]
  exact ⟨x, rfl, fun b => ⟨fun h => ⟨h, fun k h1 h2 => by omega⟩, fun h => h.1⟩⟩
 | m + 1, i, x, h => by
  obtain ⟨y, q1, q2⟩ := EF l hl m (i + 1) (x &&& List.getD l i 0#32) (by omega)
  refine ⟨y, ?_, fun b => ?_⟩
  ·rw [eW, iP (by omega), iP (by omega), iP (by omega), Int.toNat_natCast i, inc i (by omega)]
   exact q1
  ·rw [q2, BitVec.getLsbD_and, Bool.and_eq_true]
   constructor
   ·rintro ⟨⟨h1, h2⟩, h3⟩
    refine ⟨h1, fun k h4 h5 => ?_⟩
    rcases Nat.eq_or_lt_of_le h4 with rfl | h6
    ·exact h2
    ·exact h3 k h6 h5
   ·rintro ⟨h1, h2⟩
    exact ⟨⟨h1, h2 i (Nat.le_refl _) (by omega)⟩, fun k h4 h5 => h2 k (by omega) h5⟩
theorem HP (l : List W32) (hl : l.length ≤ 100000) : ∃ y, pc l = some y ∧ ∀ b, b < 32 → (y.getLsbD b = true ↔ ∀ z ∈ l, z.getLsbD b = true) := by
 obtain ⟨y, q1, q2⟩ := EF l hl l.length 0 4294967295#32 (by omega)
 unfold pc
 rw [bind_some (show eW _ l _ 0 = _ from q1)]
 refine ⟨y, rfl, fun b hb => ?_⟩
 rw [q2]
 constructor
 ·rintro ⟨_, h⟩ z hz
  obtain ⟨k, hk, rfl⟩ := List.mem_iff_getElem.1 hz
  have := h k (Nat.zero_le _) hk
  simpa [List.getD, hk] using this
 ·intro h
  refine ⟨?_, fun k _ hk => h _ ?_⟩
  ·have : ∀ b : Fin 32, (4294967295#32).getLsbD b.val = true := by decide
   exact this ⟨b, hb⟩
  ·have : List.getD l k 0#32 = l[k] := by simp [List.getD, hk]
   rw [this]
   exact List.getElem_mem hk
def xy (p : ac) (l : List ab) (g : Int) (j : ah) (f i : Nat) : Bool := (acc (nde p f i) && ((nde p f i).arg == g)) && !ip j ((nde p f i).kind == 2) (hld l f i) (liv l f i)
end Go.Bm.GoYtipjbmnfnmlkfaaGreatDoor
