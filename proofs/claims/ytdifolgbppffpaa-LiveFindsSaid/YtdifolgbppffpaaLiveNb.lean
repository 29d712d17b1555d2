/- Laws of what the claim reaches. -/
import Derived.Test.YtdifolgbppffpaaLiveNa
namespace Go.Bm.GoYtdifolgbppffpaa
set_option autoImplicit false
set_option linter.unusedVariables false
set_option linter.unusedSimpArgs false
set_option maxRecDepth 100000
theorem wpush_eq (l : List Int) (b : List Bool) (x : Int) (hl : l.length ≤ 65536) : ∃ l', heap_Push_1 l b x = some l' ∧ l'.Perm (l ++ [x]) := by
  unfold heap_Push_1 flow_todo_Push flow_todo_Len heap_up_1
  rw [if_pos (Nat.ble_eq_true_of_le (by simp only [List.length_singleton, reach]; omega))]
  simp only [bind, Option.bind_some]
  have e1 : iSub (((l ++ [x]).length : Nat) : Int) 1 = l.length := by
    rw [List.length_append, List.length_singleton, iSub_eq (by omega) (by omega)]; omega
  rw [e1]
  obtain ⟨l', h1, h2⟩ := wup_eq b l.length (l ++ [x]) (l.length : Int) (by omega) (by omega) (by simp; omega) (by simp; omega)
  rw [h1]
  exact ⟨l', rfl, h2⟩
theorem add_eq {n : Nat} (hn : n ≤ 65536) {l : List Int} {b : List Bool} (h : WK n l b) {i : Int} (h0 : 0 ≤ i) (hi : i < (n : Int)) : ∃ l' b', flow_todo_add l b i = some (l', b') ∧ WK n l' b' ∧ (∀ x, x ∈ l' ↔ x ∈ l ∨ x = i) ∧ l'.length ≤ l.length + 1 := by
  unfold flow_todo_add
  rw [if_pos (decide_eq_true h0), if_pos (decide_eq_true (by rw [h.len]; exact hi))]
  have hii : ((i.toNat : Nat) : Int) = i := by omega
  have his := h.is i.toNat (by omega)
  rw [hii] at his
  cases hb : b.getD i.toNat false with
  | true =>
    rw [if_neg (by simp)]
    have hm := his.1 hb
    exact ⟨l, b, rfl, h, fun x => ⟨.inl, fun hx => hx.elim id fun e => e ▸ hm⟩, by omega⟩
  | false =>
    rw [if_pos (by simp)]
    have hm : i ∉ l := fun hm => by rw [his.2 hm] at hb; cases hb
    obtain ⟨l', h1, h2⟩ := wpush_eq l (b.set i.toNat true) i (by have := wshort n l h.nd h.rng; omega)
    rw [h1]
    refine ⟨l', _, rfl, ⟨by simp [h.len], ?_, fun x hx => ?_, fun k hk => ?_⟩, fun x => ?_, ?_⟩
    · refine h2.nodup_iff.2 (List.nodup_append.2 ⟨h.nd, by simp, fun a ha c hc => ?_⟩)
      simp at hc
      subst hc
      exact fun e => hm (e ▸ ha)
    · have := h2.mem_iff.1 hx
      simp at this
      rcases this with hx | rfl
      · exact h.rng x hx
      · exact ⟨h0, hi⟩
    · rw [h2.mem_iff]
      simp only [List.mem_append, List.mem_singleton]
      by_cases hki : k = i.toNat
      · subst hki
        simp only [hii, or_true, iff_true]
        simp [List.getD, h.len, hk]
      · have h3 : ¬ (k : Int) = i := by omega
        have h4 : i.toNat ≠ k := fun e => hki e.symm
        simp only [h3, or_false]
        rw [← h.is k hk]
        simp [List.getD, List.getElem?_set, h4]
    · rw [h2.mem_iff]; simp
    · have := h2.length_eq
      simp at this
      omega
theorem wpop_eq (l : List Int) (b : List Bool) (h0 : 0 < l.length) (hl : l.length ≤ 65536) : ∃ x l', heap_Pop_1 l b = some (x, l') ∧ (l' ++ [x]).Perm l := by
  unfold heap_Pop_1 flow_todo_Len
  have e1 : iSub ((l.length : Nat) : Int) 1 = ((l.length - 1 : Nat) : Int) := by rw [iSub_eq (by omega) (by omega)]; omega
  simp only [bind, Option.bind_some, e1]
  rw [wswap_eq l b 0 ((l.length - 1 : Nat) : Int) (by omega) (by omega) (by omega) (by omega)]
  simp only [Option.bind_some]
  have hp := wswp_perm l (0 : Int).toNat ((l.length - 1 : Nat) : Int).toNat (by simp; omega) (by omega)
  have hlen := wswp_len l (0 : Int).toNat ((l.length - 1 : Nat) : Int).toNat
  unfold heap_down_1
  obtain ⟨r, h1, h2⟩ := wdown_eq b 0 (l.length - 1) l (l.length - 1) (wswp l (0 : Int).toNat ((l.length - 1 : Nat) : Int).toNat) 0 (by omega) (by omega) (by rw [hlen]; omega) (by rw [hlen]; omega) (by rw [hlen]; omega)
  rw [h1]
  simp only [bind, Option.bind_some]
  have hrl : r.1.length = l.length := h2.length_eq.trans hlen
  unfold flow_todo_Pop
  have e2 : iSub ((r.1.length : Nat) : Int) 1 = ((l.length - 1 : Nat) : Int) := by rw [hrl]; exact e1
  rw [e2, if_pos (decide_eq_true (by omega)), if_pos (decide_eq_true (by omega)), if_pos (decide_eq_true (by omega))]
  refine ⟨_, _, rfl, ?_⟩
  have e3 : (((l.length - 1 : Nat) : Int)).toNat = l.length - 1 := by omega
  rw [e3]
  have e4 : List.take (l.length - 1) r.1 ++ [r.1.getD (l.length - 1) 0] = r.1 := by
    have hlt : l.length - 1 < r.1.length := by omega
    have := List.take_append_getElem hlt
    rw [List.getD_eq_getElem?_getD, List.getElem?_eq_getElem hlt]
    simp only [Option.getD_some]
    rw [this]
    exact List.take_of_length_le (by omega)
  rw [e4]
  exact h2.trans hp
theorem next_eq {n : Nat} (hn : n ≤ 65536) {l : List Int} {b : List Bool} (h : WK n l b) (h0 : 0 < l.length) : ∃ i l' b', flow_todo_next l b = some (i, l', b') ∧ i ∈ l ∧ WK n l' b' ∧ (∀ x, x ∈ l' ↔ x ∈ l ∧ x ≠ i) ∧ l'.length + 1 = l.length := by
  have hs := wshort n l h.nd h.rng
  obtain ⟨x, l', h1, h2⟩ := wpop_eq l b h0 (by omega)
  unfold flow_todo_next
  rw [h1]
  simp only [bind, Option.bind_some]
  have hxm : x ∈ l := h2.mem_iff.1 (by simp)
  have hxr := h.rng x hxm
  rw [if_pos (decide_eq_true hxr.1), if_pos (decide_eq_true (by rw [h.len]; exact hxr.2))]
  have hnd : (l' ++ [x]).Nodup := h2.nodup_iff.2 h.nd
  have hnx : x ∉ l' := fun hm => by
    have := (List.nodup_append.1 hnd).2.2 x hm x (by simp)
    exact this rfl
  have hmem : ∀ y, y ∈ l' ↔ y ∈ l ∧ y ≠ x := fun y => by
    constructor
    · intro hy
      exact ⟨h2.mem_iff.1 (by simp [hy]), fun e => hnx (e ▸ hy)⟩
    · rintro ⟨hy, hne⟩
      have := h2.mem_iff.2 hy
      simp at this
      exact this.resolve_right hne
  refine ⟨x, l', _, rfl, hxm, ⟨by simp [h.len], (List.nodup_append.1 hnd).1, fun y hy => h.rng y ((hmem y).1 hy).1, fun k hk => ?_⟩, hmem, by have := h2.length_eq; simp at this; omega⟩
  rw [hmem]
  have hxx : ((x.toNat : Nat) : Int) = x := by omega
  by_cases hkx : k = x.toNat
  · subst hkx
    simp [hxx, List.getD, h.len, hk]
  · have h4 : x.toNat ≠ k := fun e => hkx e.symm
    have h5 : (k : Int) ≠ x := by omega
    simp only [h5, ne_eq, not_false_eq_true, and_true]
    rw [← h.is k hk]
    simp [List.getD, List.getElem?_set, h4]
/-- a is within b. -/
def sub (a b : W32) : Prop := ∀ i, a.getLsbD i = true → b.getLsbD i = true
theorem sub.refl (a : W32) : sub a a := fun _ h => h
theorem sub.trans {a b c : W32} (h : sub a b) (k : sub b c) : sub a c := fun i hi => k i (h i hi)
theorem sub.antisymm {a b : W32} (h : sub a b) (k : sub b a) : a = b := by
  apply BitVec.eq_of_getLsbD_eq
  intro i hi
  rw [Bool.eq_iff_iff]
  exact ⟨h i, k i⟩
theorem and_sub_l (a b : W32) : sub (a &&& b) a := fun i h => by simp at h; exact h.1
theorem and_sub_r (a b : W32) : sub (a &&& b) b := fun i h => by simp at h; exact h.2
theorem sub_and {a b c : W32} (h : sub c a) (k : sub c b) : sub c (a &&& b) := fun i hi => by simp [h i hi, k i hi]
theorem sub_or_l (a b : W32) : sub a (a ||| b) := fun i h => by simp [h]
theorem sub_or_r (a b : W32) : sub b (a ||| b) := fun i h => by simp [h]
theorem or_sub {a b c : W32} (h : sub a c) (k : sub b c) : sub (a ||| b) c := fun i hi => by
  simp at hi
  exact hi.elim (h i) (k i)
theorem ne_zero {a : W32} : a ≠ 0#32 ↔ ∃ i, a.getLsbD i = true := by
  constructor
  · intro h
    apply Classical.byContradiction
    intro hn
    apply h
    apply BitVec.eq_of_getLsbD_eq
    intro i hi
    cases ha : a.getLsbD i with
    | false => simp
    | true => exact absurd ⟨i, ha⟩ hn
  · rintro ⟨i, hi⟩ rfl
    simp at hi
/-- What rules make goes with what they are told. -/
theorem rval_mono (r : flow_Rule) {v w : List W32} (h : ∀ j : Int, sub (gi v j) (gi w j)) : sub (rval r v) (rval r w) := by
  unfold rval
  have h1 : sub (gi v r.from_ &&& r.keep ||| gi v r.also) (gi w r.from_ &&& r.keep ||| gi w r.also) :=
    or_sub (sub.trans (sub_and (sub.trans (and_sub_l _ _) (h _)) (and_sub_r _ _)) (sub_or_l _ _)) (sub.trans (h _) (sub_or_r _ _))
  by_cases hv : r.if_ = 0#32 ∨ gi v r.from_ &&& r.if_ ≠ 0#32
  · have hw : r.if_ = 0#32 ∨ gi w r.from_ &&& r.if_ ≠ 0#32 := by
      rcases hv with hv | hv
      · exact .inl hv
      · obtain ⟨i, hi⟩ := ne_zero.1 hv
        refine .inr (ne_zero.2 ⟨i, ?_⟩)
        simp at hi ⊢
        exact ⟨h _ i hi.1, hi.2⟩
    rw [if_pos hv, if_pos hw]
    exact or_sub (sub.trans h1 (sub_or_l _ _)) (sub_or_r _ _)
  · rw [if_neg hv]
    split
    · exact sub.trans h1 (sub_or_l _ _)
    · exact h1
theorem gi_set (v : List W32) (i : Nat) (x : W32) (hi : i < v.length) (j : Int) : gi (v.set i x) j = if j = (i : Int) then x else gi v j := by
  unfold gi
  rw [List.length_set]
  by_cases hj : j = (i : Int)
  · subst hj
    rw [if_pos (by omega), if_pos rfl]
    simp [List.getD, hi]
  · rw [if_neg hj]
    split
    · rename_i h
      have : i ≠ j.toNat := by omega
      simp [List.getD, List.getElem?_set, this]
    · rfl
/-- One more use, where the input is a set. -/
def use1 (n : Nat) (u : List (List Int)) (j k : Int) : List (List Int) := if 0 ≤ j ∧ j < (n : Int) then u.set j.toNat (u.getD j.toNat [] ++ [k]) else u
/-- How many bits a set has. -/
def pop (a : W32) : Nat := ((List.range 32).filter fun i => a.getLsbD i).length
theorem filter_le {p q : Nat → Bool} (l : List Nat) (h : ∀ i, p i = true → q i = true) : (l.filter p).length ≤ (l.filter q).length := by
  induction l with
  | nil => simp
  | cons x l ih =>
    simp only [List.filter_cons]
    cases hp : p x with
    | true => rw [h x hp]; simpa using ih
    | false => cases q x <;> simp <;> omega
theorem filter_lt {p q : Nat → Bool} (l : List Nat) (h : ∀ i, p i = true → q i = true) {x : Nat} (hx : x ∈ l) (h1 : p x = false) (h2 : q x = true) : (l.filter p).length < (l.filter q).length := by
  induction l with
  | nil => cases hx
  | cons y l ih =>
    simp only [List.filter_cons]
    rcases List.mem_cons.1 hx with rfl | hx
    · rw [h1, h2]
      have := filter_le l h
      simp; omega
    · have ih := ih hx
      cases hp : p y with
      | true => rw [h y hp]; simpa using ih
      | false => cases q y <;> simp <;> omega
theorem pop_lt {a b : W32} (h : sub a b) (hn : a ≠ b) : pop a < pop b := by
  have : ∃ i, i < 32 ∧ a.getLsbD i = false ∧ b.getLsbD i = true := by
    apply Classical.byContradiction
    intro hno
    apply hn
    apply BitVec.eq_of_getLsbD_eq
    intro i hi
    cases ha : a.getLsbD i with
    | true => rw [h i ha]
    | false =>
      cases hb : b.getLsbD i with
      | false => rfl
      | true => exact absurd ⟨i, hi, ha, hb⟩ hno
  obtain ⟨i, hi, h1, h2⟩ := this
  exact filter_lt _ h (List.mem_range.2 hi) h1 h2
def pops (v : List W32) : Nat := (v.map pop).sum
theorem pops_set : ∀ (v : List W32) (i : Nat) (x : W32) (h : i < v.length), pops (v.set i x) + pop v[i] = pops v + pop x
  | a :: v, 0, x, h => by simp [pops]; omega
  | a :: v, i + 1, x, h => by
    have := pops_set v i x (by simpa using h)
    simp [pops] at this ⊢
    omega
/-- Sets that keep the rules from above. -/
def Keeps (l : List flow_Rule) (n : Nat) (w : List W32) : Prop := ∀ r ∈ l, 0 ≤ r.to_ → r.to_ < (n : Int) → sub (gi w r.to_) (rval r w)
theorem gi_get {v : List W32} {j : Int} (h0 : 0 ≤ j) (h1 : j < v.length) : v[j.toNat]'(by omega) = gi v j := by
  unfold gi
  rw [if_pos ⟨h0, h1⟩]
  simp [List.getD, show j.toNat < v.length by omega]
/-- One set less: what is so of the sets then. -/
theorem cut_one {l : List flow_Rule} {v : List W32} {r : flow_Rule} {x : W32} (hr : r ∈ l) (h0 : 0 ≤ r.to_) (h1 : r.to_ < v.length) (hx : x = rval r v &&& gi v r.to_) :
    (∀ j, sub (gi (v.set r.to_.toNat x) j) (gi v j)) ∧ (∀ w, Keeps l v.length w → (∀ j, sub (gi w j) (gi v j)) → ∀ j, sub (gi w j) (gi (v.set r.to_.toNat x) j)) ∧ (x ≠ gi v r.to_ → pops (v.set r.to_.toNat x) < pops v) := by
  have hlt : r.to_.toNat < v.length := by omega
  have hcast : ((r.to_.toNat : Nat) : Int) = r.to_ := by omega
  have hg : ∀ j, gi (v.set r.to_.toNat x) j = if j = r.to_ then x else gi v j := fun j => by rw [gi_set v _ x hlt j, hcast]
  have hsub : sub x (gi v r.to_) := by rw [hx]; exact and_sub_r _ _
  refine ⟨fun j => ?_, fun w hw hwv j => ?_, fun hne => ?_⟩
  · rw [hg]
    split
    · rename_i e; rw [e]; exact hsub
    · exact sub.refl _
  · rw [hg]
    split
    · rename_i e
      rw [e, hx]
      exact sub_and (sub.trans (hw r hr h0 h1) (rval_mono r hwv)) (hwv _)
    · exact hwv j
  · have h2 := pops_set v r.to_.toNat x hlt
    have h3 : v[r.to_.toNat] = gi v r.to_ := gi_get h0 h1
    have h4 := pop_lt hsub hne
    rw [h3] at h2
    omega
theorem set_take (x : List W32) (i m : Nat) (top : W32) (h : i + (m + 1) = x.length) : (x.set i top).take (i + 1) ++ List.replicate m top = x.take i ++ List.replicate (m + 1) top := by
  have h1 : (x.set i top).take (i + 1) = x.take i ++ [top] := by
    apply List.ext_getElem?
    intro k
    by_cases hk : k < i
    · rw [List.getElem?_take, if_pos (by omega), List.getElem?_append_left (by simp; omega), List.getElem?_take, if_pos hk, List.getElem?_set, if_neg (by omega)]
    · by_cases hk2 : k = i
      · subst hk2
        rw [List.getElem?_take, if_pos (by omega), List.getElem?_append_right (by simp; omega)]
        simp [show k < x.length by omega, Nat.min_eq_left (show k ≤ x.length by omega)]
      · rw [List.getElem?_take, if_neg (by omega)]
        rw [List.getElem?_eq_none (by simp; omega)]
  rw [h1, List.replicate_succ]
  simp
theorem fill_prog (n : Nat) (hn : n ≤ 65536) (top : W32) : ∀ (m i : Nat) (x : List W32), i + m = n → x.length = n → flow_start_l5 x top (n : Int) (i : Int) = some (x.take i ++ List.replicate m top)
  | 0, i, x, h, hx => by
    rw [flow_start_l5, if_neg (by simp only [decide_eq_true_eq]; omega), List.take_of_length_le (by omega)]
    simp
  | m + 1, i, x, h, hx => by
    have hi : iAdd (i : Int) 1 = ((i + 1 : Nat) : Int) := by rw [iAdd_eq (by omega) (by omega)]; omega
    rw [flow_start_l5, if_pos (decide_eq_true (by omega)), if_pos (decide_eq_true (by omega)), if_pos (decide_eq_true (by omega)), hi, fill_prog n hn top m (i + 1) _ (by omega) (by simp [hx])]
    rw [show (Int.toNat (i : Int)) = i by omega, set_take x i m top (by omega)]
theorem start_eq (n : Int) (top : W32) : flow_start n top = some (if 0 ≤ n ∧ n ≤ 65536 then List.replicate n.toNat top else []) := by
  unfold flow_start
  by_cases h0 : n < 0
  · rw [if_pos (decide_eq_true h0), if_neg (by omega)]
  · rw [if_neg (by simpa using h0)]
    by_cases h1 : n > 65536
    · rw [if_pos (decide_eq_true h1), if_neg (by omega)]
    · rw [if_neg (by simpa using h1), if_pos (decide_eq_true (by omega)), if_pos (decide_eq_true (by simp only [reach]; omega)), if_pos (by omega)]
      have := fill_prog n.toNat (by omega) top n.toNat 0 (List.replicate n.toNat 0#32) (by omega) (by simp)
      have h3 : flow_start_l5 (List.replicate n.toNat 0#32) top ((n.toNat : Nat) : Int) 0 = some (List.replicate n.toNat top) := by simpa using this
      rw [List.length_replicate, h3]
      rfl
/-- A rule holds. -/
def Holds (v : List W32) (r : flow_Rule) : Prop := sub (gi v r.to_) (rval r v)
/-- One of a rule's inputs waits. -/
def Waits (l : List Int) (r : flow_Rule) : Prop := r.from_ ∈ l ∨ r.also ∈ l
theorem rval_congr {r : flow_Rule} {v w : List W32} (h1 : gi v r.from_ = gi w r.from_) (h2 : gi v r.also = gi w r.also) : rval r v = rval r w := by unfold rval; rw [h1, h2]
theorem use1_get (n : Nat) (us : List (List Int)) (hl : us.length = n) (j k : Int) (i0 : Nat) : (use1 n us j k).getD i0 [] = if 0 ≤ j ∧ j < (n : Int) ∧ j.toNat = i0 then us.getD i0 [] ++ [k] else us.getD i0 [] := by
  unfold use1
  by_cases h : 0 ≤ j ∧ j < (n : Int)
  · rw [if_pos h]
    by_cases hi : j.toNat = i0
    · subst hi
      rw [if_pos ⟨h.1, h.2, rfl⟩]
      have : j.toNat < us.length := by omega
      simp [List.getD, this]
    · rw [if_neg (by rintro ⟨_, _, e⟩; exact hi e)]
      simp [List.getD, List.getElem?_set, hi]
  · rw [if_neg h, if_neg (by rintro ⟨a, b, _⟩; exact h ⟨a, b⟩)]
theorem use1_len (n : Nat) (us : List (List Int)) (j k : Int) : (use1 n us j k).length = us.length := by
  unfold use1
  split <;> simp
/-- A rule whose inputs are no sets makes always the same. -/
theorem rval_const {r : flow_Rule} {v w : List W32} (hl : v.length = w.length) (h : ¬ ((0 ≤ r.from_ ∧ r.from_ < (v.length : Int)) ∨ (0 ≤ r.also ∧ r.also < (v.length : Int)))) : rval r v = rval r w := by
  refine rval_congr ?_ ?_
  · unfold gi
    rw [if_neg fun hh => h (.inl hh), if_neg fun hh => h (.inl (by rw [hl]; exact hh))]
  · unfold gi
    rw [if_neg fun hh => h (.inr hh), if_neg fun hh => h (.inr (by rw [hl]; exact hh))]
/-- What is so in the first pass, behind some rules. -/
structure First (n : Nat) (b : List flow_Rule) (v0 v : List W32) (us : List (List Int)) (l : List Int) (tb : List Bool) (rs : List flow_Rule) (i : Nat) : Prop where
  vl : v.length = n
  ul : us.length = n
  wk : WK n l tb
  isr : ∀ r, r ∈ rs ↔ r ∈ b.take i ∧ 0 ≤ r.to_ ∧ r.to_ < (n : Int)
  rl : rs.length ≤ i
  isu : ∀ i0 : Nat, ∀ k ∈ us.getD i0 [], ∃ q : Nat, k = (q : Int) ∧ q < rs.length
  un : ∀ i0 : Nat, (us.getD i0 []).length ≤ 2 * i
  use : ∀ (q : Nat) (r : flow_Rule) (j : Int), rs[q]? = some r → (r.from_ = j ∨ r.also = j) → 0 ≤ j → j < (n : Int) → (q : Int) ∈ us.getD j.toNat []
  down : ∀ j, sub (gi v j) (gi v0 j)
  best : ∀ w, Keeps b n w → (∀ j, sub (gi w j) (gi v0 j)) → ∀ j, sub (gi w j) (gi v j)
  hold : ∀ r ∈ rs, ((0 ≤ r.from_ ∧ r.from_ < (n : Int)) ∨ (0 ≤ r.also ∧ r.also < (n : Int))) ∨ Holds v r
theorem take_one {α : Type} {b : List α} {i : Nat} (h : i < b.length) (x : α) : x ∈ b.take (i + 1) ↔ x ∈ b.take i ∨ x = b[i] := by
  rw [← List.take_append_getElem h, List.mem_append, List.mem_singleton]
theorem use2_get (n : Nat) (us : List (List Int)) (hl : us.length = n) (j j' k : Int) (i0 : Nat) (x : Int) : x ∈ (use1 n (use1 n us j k) j' k).getD i0 [] ↔ x ∈ us.getD i0 [] ∨ (x = k ∧ ((0 ≤ j ∧ j < (n : Int) ∧ j.toNat = i0) ∨ (0 ≤ j' ∧ j' < (n : Int) ∧ j'.toNat = i0))) := by
  rw [use1_get n _ ((use1_len n us j k).trans hl), use1_get n us hl]
  by_cases h1 : 0 ≤ j ∧ j < (n : Int) ∧ j.toNat = i0 <;> by_cases h2 : 0 ≤ j' ∧ j' < (n : Int) ∧ j'.toNat = i0 <;> simp [h1, h2, or_assoc]
theorem use2_len (n : Nat) (us : List (List Int)) (hl : us.length = n) (j j' k : Int) (i0 : Nat) : ((use1 n (use1 n us j k) j' k).getD i0 []).length ≤ (us.getD i0 []).length + 2 := by
  rw [use1_get n _ ((use1_len n us j k).trans hl), use1_get n us hl]
  by_cases h1 : 0 ≤ j ∧ j < (n : Int) ∧ j.toNat = i0 <;> by_cases h2 : 0 ≤ j' ∧ j' < (n : Int) ∧ j'.toNat = i0 <;> simp [h1, h2]
theorem get_snoc {α : Type} {l : List α} {x r : α} {q : Nat} (h : (l ++ [x])[q]? = some r) : l[q]? = some r ∨ (q = l.length ∧ r = x) := by
  rw [List.getElem?_append] at h
  split at h
  · exact .inl h
  · refine .inr ?_
    rename_i hq
    have h2 : q - l.length = 0 := by
      rcases Nat.eq_zero_or_pos (q - l.length) with h3 | h3
      · exact h3
      · rw [List.getElem?_eq_none (by simp; omega)] at h; cases h
    rw [h2] at h
    refine ⟨by omega, ?_⟩
    simpa using h.symm
theorem First.next {n : Nat} {b : List flow_Rule} {v0 v : List W32} {us : List (List Int)} {l : List Int} {tb : List Bool} {rs : List flow_Rule} {i : Nat} (h : First n b v0 v us l tb rs i) (hi : i < b.length) (hn : ¬ (0 ≤ b[i].to_ ∧ b[i].to_ < (n : Int))) : First n b v0 v us l tb rs (i + 1) where
  vl := h.vl
  ul := h.ul
  wk := h.wk
  isr := fun r => by
    rw [h.isr, take_one hi]
    constructor
    · rintro ⟨h1, h2⟩; exact ⟨.inl h1, h2⟩
    · rintro ⟨h1 | h1, h2⟩
      · exact ⟨h1, h2⟩
      · subst h1; exact absurd h2 hn
  rl := by have := h.rl; omega
  isu := h.isu
  un := fun i0 => by have := h.un i0; omega
  use := h.use
  down := h.down
  best := h.best
  hold := h.hold
theorem First.rule {n : Nat} {b : List flow_Rule} {v0 v : List W32} {us : List (List Int)} {l l' : List Int} {tb tb' : List Bool} {rs : List flow_Rule} {i : Nat} (h : First n b v0 v us l tb rs i) (hi : i < b.length) (h0 : 0 ≤ b[i].to_) (h1 : b[i].to_ < (n : Int)) (hw : WK n l' tb') :
    First n b v0 (v.set b[i].to_.toNat (gi v b[i].to_ &&& rval b[i] v)) (use1 n (use1 n us b[i].from_ (rs.length : Int)) b[i].also (rs.length : Int)) l' tb' (rs ++ [b[i]]) (i + 1) := by
  have h1' : b[i].to_ < (v.length : Int) := by rw [h.vl]; exact h1
  have hlt : b[i].to_.toNat < v.length := by omega
  obtain ⟨c1, c2, c3⟩ := cut_one (l := b) (x := gi v b[i].to_ &&& rval b[i] v) (List.getElem_mem hi) h0 h1' (BitVec.and_comm _ _)
  constructor
  · rw [List.length_set, h.vl]
  · rw [use1_len, use1_len, h.ul]
  · exact hw
  · intro r
    rw [List.mem_append, List.mem_singleton, h.isr, take_one hi]
    constructor
    · rintro (⟨h2, h3⟩ | rfl)
      · exact ⟨.inl h2, h3⟩
      · exact ⟨.inr rfl, h0, h1⟩
    · rintro ⟨h2 | h2, h3⟩
      · exact .inl ⟨h2, h3⟩
      · exact .inr h2
  · have := h.rl
    simp; omega
  · intro i0 k hk
    rcases (use2_get n us h.ul _ _ _ i0 k).1 hk with hk | ⟨rfl, _⟩
    · obtain ⟨q, h2, h3⟩ := h.isu i0 k hk
      exact ⟨q, h2, by simp; omega⟩
    · exact ⟨rs.length, rfl, by simp⟩
  · intro i0
    have h2 := use2_len n us h.ul b[i].from_ b[i].also (rs.length : Int) i0
    have h3 := h.un i0
    omega
  · intro q r j hq hj hj0 hj1
    rw [use2_get n us h.ul]
    rcases get_snoc hq with hq | ⟨rfl, rfl⟩
    · exact .inl (h.use q r j hq hj hj0 hj1)
    · refine .inr ⟨rfl, ?_⟩
      rcases hj with hj | hj
      · exact .inl (by rw [hj]; exact ⟨hj0, hj1, rfl⟩)
      · exact .inr (by rw [hj]; exact ⟨hj0, hj1, rfl⟩)
  · exact fun j => (c1 j).trans (h.down j)
  · exact fun w hk hwv => c2 w (h.vl ▸ hk) (h.best w hk hwv)
  · intro r hr
    by_cases hin : (0 ≤ r.from_ ∧ r.from_ < (n : Int)) ∨ (0 ≤ r.also ∧ r.also < (n : Int))
    · exact .inl hin
    · refine .inr ?_
      have e : rval r (v.set b[i].to_.toNat (gi v b[i].to_ &&& rval b[i] v)) = rval r v := rval_const (by simp) (by rw [List.length_set, h.vl]; exact hin)
      show sub _ _
      rw [e]
      rcases List.mem_append.1 hr with hr | hr
      · exact (c1 r.to_).trans ((h.hold r hr).resolve_left hin)
      · rw [List.mem_singleton] at hr
        subst hr
        have hcast : ((b[i].to_.toNat : Nat) : Int) = b[i].to_ := by omega
        have hg := gi_set v _ (gi v b[i].to_ &&& rval b[i] v) hlt b[i].to_
        rw [hg, hcast, if_pos rfl]
        exact and_sub_r _ _
theorem getD_rep (n : Nat) (i0 : Nat) : (List.replicate n ([] : List Int)).getD i0 [] = [] := by
  simp only [List.getD, List.getElem?_replicate]
  split <;> rfl
theorem First.start (v0 : List W32) (b : List flow_Rule) : First v0.length b v0 v0 (List.replicate v0.length []) [] (List.replicate v0.length false) [] 0 where
  vl := rfl
  ul := by simp
  wk := ⟨by simp, by simp, by simp, fun i hi => by simp [List.getD, List.getElem?_replicate, hi]⟩
  isr := fun r => by simp
  rl := Nat.le_refl _
  isu := fun i0 k hk => by rw [getD_rep] at hk; cases hk
  un := fun i0 => by rw [getD_rep]; simp
  use := fun q r j hq => by simp at hq
  down := fun j => sub.refl _
  best := fun w _ h => h
  hold := fun r hr => by cases hr
/-- b is within a. -/
def Dsub (a b : W32) : Prop := sub b a
theorem Dsub.refl (a : W32) : Dsub a a := sub.refl a
theorem Dsub.trans {a b c : W32} (h : Dsub a b) (k : Dsub b c) : Dsub a c := sub.trans k h
theorem Dsub.antisymm {a b : W32} (h : Dsub a b) (k : Dsub b a) : a = b := sub.antisymm k h
theorem Dand_sub_l (a b : W32) : Dsub (a ||| b) a := sub_or_l a b
theorem Dand_sub_r (a b : W32) : Dsub (a ||| b) b := sub_or_r a b
theorem Dsub_and {a b c : W32} (h : Dsub c a) (k : Dsub c b) : Dsub c (a ||| b) := or_sub h k
theorem Drval_mono (r : flow_Rule) {v w : List W32} (h : ∀ j : Int, Dsub (gi v j) (gi w j)) : Dsub (rval r v) (rval r w) := rval_mono r h
/-- How many bits a set lacks. -/
def Dpop (a : W32) : Nat := ((List.range 32).filter fun i => !a.getLsbD i).length
theorem Dpop_le {a b : W32} (h : Dsub a b) : Dpop a ≤ Dpop b := filter_le _ fun i hi => by
  cases hb : b.getLsbD i with
  | false => rfl
  | true => have := h i hb; simp [this] at hi
theorem Dpop_lt {a b : W32} (h : Dsub a b) (hn : a ≠ b) : Dpop a < Dpop b := by
  have : ∃ i, i < 32 ∧ b.getLsbD i = false ∧ a.getLsbD i = true := by
    apply Classical.byContradiction
    intro hno
    apply hn
    apply BitVec.eq_of_getLsbD_eq
    intro i hi
    cases hb : b.getLsbD i with
    | true => rw [h i hb]
    | false =>
      cases ha : a.getLsbD i with
      | false => rfl
      | true => exact absurd ⟨i, hi, hb, ha⟩ hno
  obtain ⟨i, hi, h1, h2⟩ := this
  refine filter_lt _ (fun k hk => ?_) (List.mem_range.2 hi) (by simp [h2]) (by simp [h1])
  cases hb : b.getLsbD k with
  | false => rfl
  | true => have := h k hb; simp [this] at hk
theorem Dapply_eq (v : List W32) (u : List (List Int)) (b0 : List flow_Rule) (r : flow_Rule) (h0 : 0 ≤ r.to_) (h1 : r.to_ < v.length) :
    flow_solver_apply v u b0 r = some ((gi v r.to_ ||| rval r v) != gi v r.to_, v.set r.to_.toNat (gi v r.to_ ||| rval r v)) := by
  unfold flow_solver_apply flow_join
  rw [if_pos (decide_eq_true h0), if_pos (decide_eq_true h1), value_eq]
  simp only [bind, Option.bind_some]
  have e : List.getD v r.to_.toNat 0#32 = gi v r.to_ := by unfold gi; rw [if_pos ⟨h0, h1⟩]
  rw [e]
  have e2 : ∀ x : W32, List.getD (List.set v r.to_.toNat x) r.to_.toNat 0#32 = x := fun x => by
    have : r.to_.toNat < v.length := by omega
    simp [List.getD, this]
  rw [e2]
theorem Dl9_eq (v : List W32) (x1 : List (List Int)) (x3 : List Int) (x4 : List Bool) (rs : List flow_Rule) (js : List Int) (x7 : List flow_Rule) (x8 x9 x10 : Int) (x11 x12 x13 : W32) (x14 : List flow_Rule) (x15 x16 : Int) (hjs : js.length ≤ 2) :
    ∀ (n i : Nat) (u : List (List Int)), i + n = js.length → u.length = v.length → (∀ j : Nat, (u.getD j []).length + n ≤ 1000000) →
    flow_solver_solve_l9 v x1 u x3 x4 rs js x7 x8 x9 x10 x11 x12 x13 x14 x15 x16 (js.length : Int) (i : Int) = some ((js.drop i).foldl (fun u j => use1 v.length u j (rs.length : Int)) u)
  | 0, i, u, h, hu, hb => by
    rw [flow_solver_solve_l9, if_neg (by simp only [decide_eq_true_eq]; omega), List.drop_eq_nil_of_le (by omega)]
    rfl
  | n + 1, i, u, h, hu, hb => by
    have hi : iAdd (i : Int) 1 = ((i + 1 : Nat) : Int) := by rw [iAdd_eq (by omega) (by omega)]; omega
    have hlt : i < js.length := by omega
    rw [flow_solver_solve_l9, if_pos (decide_eq_true (by omega)), if_pos (decide_eq_true (by omega)), if_pos (decide_eq_true (by omega)), hi]
    have e : List.getD js (Int.toNat (i : Int)) 0 = js[i] := by simp [List.getD, hlt]
    rw [e, List.drop_eq_getElem_cons hlt, List.foldl_cons]
    generalize js[i] = j
    have ih := fun u' hu' hb' => Dl9_eq v x1 x3 x4 rs js x7 x8 x9 x10 x11 x12 x13 x14 x15 x16 hjs n (i + 1) u' (by omega) hu' hb'
    by_cases h0 : j ≥ 0
    · rw [if_pos (decide_eq_true h0)]
      by_cases h1 : j < (v.length : Int)
      · rw [if_pos (decide_eq_true h1), if_pos (decide_eq_true h0), if_pos (decide_eq_true (by rw [hu]; exact h1))]
        rw [if_pos (Nat.ble_eq_true_of_le (by have := hb j.toNat; simp only [List.length_singleton, reach]; omega))]
        have e1 : use1 v.length u j (rs.length : Int) = u.set j.toNat (u.getD j.toNat [] ++ [(rs.length : Int)]) := if_pos ⟨h0, h1⟩
        rw [e1]
        refine ih _ (by simp [hu]) fun k => ?_
        have hk := hb k
        by_cases hkj : j.toNat = k
        · subst hkj
          have : j.toNat < u.length := by omega
          simp [List.getD, this] at hk ⊢
          omega
        · have : (u.set j.toNat (u.getD j.toNat [] ++ [(rs.length : Int)])).getD k [] = u.getD k [] := by simp [List.getD, List.getElem?_set, hkj]
          rw [this]; omega
      · rw [if_neg (by simpa using h1)]
        have e1 : use1 v.length u j (rs.length : Int) = u := if_neg (by omega)
        rw [e1]
        exact ih u hu fun k => by have := hb k; omega
    · rw [if_neg (by simpa using h0)]
      have e1 : use1 v.length u j (rs.length : Int) = u := if_neg (by omega)
      rw [e1]
      exact ih u hu fun k => by have := hb k; omega
theorem Dpop_32 (a : W32) : Dpop a ≤ 32 := Nat.le_trans (List.length_filter_le _ _) (by simp)
def Dpops (v : List W32) : Nat := (v.map Dpop).sum
theorem Dpops_set : ∀ (v : List W32) (i : Nat) (x : W32) (h : i < v.length), Dpops (v.set i x) + Dpop v[i] = Dpops v + Dpop x
  | a :: v, 0, x, h => by simp [Dpops]; omega
  | a :: v, i + 1, x, h => by
    have := Dpops_set v i x (by simpa using h)
    simp [Dpops] at this ⊢
    omega
theorem Dpops_le : ∀ v : List W32, Dpops v ≤ 32 * v.length
  | [] => by simp [Dpops]
  | a :: v => by
    have h1 := Dpops_le v
    have h2 := Dpop_32 a
    simp [Dpops] at h1 ⊢
    omega
/-- Sets that keep the rules from above. -/
def DKeeps (l : List flow_Rule) (n : Nat) (w : List W32) : Prop := ∀ r ∈ l, 0 ≤ r.to_ → r.to_ < (n : Int) → Dsub (gi w r.to_) (rval r w)
/-- One set less: what is so of the sets then. -/
theorem Dcut_one {l : List flow_Rule} {v : List W32} {r : flow_Rule} {x : W32} (hr : r ∈ l) (h0 : 0 ≤ r.to_) (h1 : r.to_ < v.length) (hx : x = rval r v ||| gi v r.to_) :
    (∀ j, Dsub (gi (v.set r.to_.toNat x) j) (gi v j)) ∧ (∀ w, DKeeps l v.length w → (∀ j, Dsub (gi w j) (gi v j)) → ∀ j, Dsub (gi w j) (gi (v.set r.to_.toNat x) j)) ∧ (x ≠ gi v r.to_ → Dpops (v.set r.to_.toNat x) < Dpops v) := by
  have hlt : r.to_.toNat < v.length := by omega
  have hcast : ((r.to_.toNat : Nat) : Int) = r.to_ := by omega
  have hg : ∀ j, gi (v.set r.to_.toNat x) j = if j = r.to_ then x else gi v j := fun j => by rw [gi_set v _ x hlt j, hcast]
  have hsub : Dsub x (gi v r.to_) := by rw [hx]; exact Dand_sub_r _ _
  refine ⟨fun j => ?_, fun w hw hwv j => ?_, fun hne => ?_⟩
  · rw [hg]
    split
    · rename_i e; rw [e]; exact hsub
    · exact Dsub.refl _
  · rw [hg]
    split
    · rename_i e
      rw [e, hx]
      exact Dsub_and (Dsub.trans (hw r hr h0 h1) (Drval_mono r hwv)) (hwv _)
    · exact hwv j
  · have h2 := Dpops_set v r.to_.toNat x hlt
    have h3 : v[r.to_.toNat] = gi v r.to_ := gi_get h0 h1
    have h4 := Dpop_lt hsub hne
    rw [h3] at h2
    omega
/-- The least sets that keep the rules, beyond some. -/
structure Lfp (l : List flow_Rule) (v v' : List W32) : Prop where
  len : v'.length = v.length
  sub : ∀ j, Dsub (gi v' j) (gi v j)
  best : ∀ w, DKeeps l v.length w → (∀ j, Dsub (gi w j) (gi v j)) → ∀ j, Dsub (gi w j) (gi v' j)
  keeps : DKeeps l v.length v'
/-- A rule holds. -/
def DHolds (v : List W32) (r : flow_Rule) : Prop := Dsub (gi v r.to_) (rval r v)
theorem Dholds_after {v : List W32} {t : Int} {x : W32} (h0 : 0 ≤ t) (h1 : t < v.length) (hx : Dsub x (gi v t)) {r : flow_Rule} (hr : DHolds v r) (hf : r.from_ ≠ t) (ha : r.also ≠ t) : DHolds (v.set t.toNat x) r := by
  have hlt : t.toNat < v.length := by omega
  have hcast : ((t.toNat : Nat) : Int) = t := by omega
  have hg : ∀ j, gi (v.set t.toNat x) j = if j = t then x else gi v j := fun j => by rw [gi_set v _ x hlt j, hcast]
  unfold DHolds at hr ⊢
  rw [rval_congr (v := v.set t.toNat x) (w := v) (by rw [hg, if_neg hf]) (by rw [hg, if_neg ha]), hg]
  split
  · rename_i e; rw [e] at hr; exact hx.trans hr
  · exact hr
/-- A rule is done: it holds then, or waits; so does what held, or waited. -/
theorem Ddone_step {v : List W32} {r0 : flow_Rule} {l l' : List Int} (h0 : 0 ≤ r0.to_) (h1 : r0.to_ < v.length) (hl : ∀ y, y ∈ l → y ∈ l') (ht : (gi v r0.to_ ||| rval r0 v) ≠ gi v r0.to_ → r0.to_ ∈ l') :
    (∀ r, DHolds v r ∨ Waits l r → DHolds (v.set r0.to_.toNat (gi v r0.to_ ||| rval r0 v)) r ∨ Waits l' r) ∧ (DHolds (v.set r0.to_.toNat (gi v r0.to_ ||| rval r0 v)) r0 ∨ Waits l' r0) := by
  have hlt : r0.to_.toNat < v.length := by omega
  have hcast : ((r0.to_.toNat : Nat) : Int) = r0.to_ := by omega
  by_cases hc : (gi v r0.to_ ||| rval r0 v) = gi v r0.to_
  · have e : v.set r0.to_.toNat (gi v r0.to_ ||| rval r0 v) = v := by
      rw [hc]
      have := gi_get h0 h1
      rw [← this]
      simp
    rw [e]
    refine ⟨fun r hr => hr.imp id fun hw => hw.imp (hl _) (hl _), .inl ?_⟩
    show Dsub (gi v r0.to_) (rval r0 v)
    rw [← hc]
    exact Dand_sub_r _ _
  · have ht := ht hc
    have key : ∀ r, (r.from_ = r0.to_ ∨ r.also = r0.to_) → Waits l' r := fun r h => h.elim (fun e => .inl (e ▸ ht)) fun e => .inr (e ▸ ht)
    refine ⟨fun r hr => ?_, ?_⟩
    · by_cases hin : r.from_ = r0.to_ ∨ r.also = r0.to_
      · exact .inr (key r hin)
      · rcases hr with hr | hr
        · exact .inl (Dholds_after h0 h1 (Dand_sub_l _ _) hr (fun e => hin (.inl e)) fun e => hin (.inr e))
        · exact .inr (hr.imp (hl _) (hl _))
    · by_cases hin : r0.from_ = r0.to_ ∨ r0.also = r0.to_
      · exact .inr (key r0 hin)
      · refine .inl ?_
        have hg : ∀ j, gi (v.set r0.to_.toNat (gi v r0.to_ ||| rval r0 v)) j = if j = r0.to_ then (gi v r0.to_ ||| rval r0 v) else gi v j := fun j => by rw [gi_set v _ _ hlt j, hcast]
        show Dsub (gi _ r0.to_) (rval r0 _)
        rw [rval_congr (v := v.set r0.to_.toNat (gi v r0.to_ ||| rval r0 v)) (w := v) (by rw [hg, if_neg fun e => hin (.inl e)]) (by rw [hg, if_neg fun e => hin (.inr e)]), hg, if_pos rfl]
        exact Dand_sub_r _ _
theorem Dl25_eq (n : Nat) (hn : n ≤ 65536) (x1 : List (List Int)) (us : List (List Int)) (rs : List flow_Rule) (x6 : List flow_Rule) (i0 : Nat) (hrs : ∀ r ∈ rs, 0 ≤ r.to_ ∧ r.to_ < (n : Int)) (hus : ∀ k ∈ us.getD i0 [], ∃ q : Nat, k = (q : Int) ∧ q < rs.length) (hlen : (us.getD i0 []).length ≤ 1000000) :
    ∀ (m i : Nat) (v : List W32) (l : List Int) (tb : List Bool), i + m = (us.getD i0 []).length → v.length = n → WK n l tb →
    ∃ v' l' tb', flow_solver_solve_l25 v x1 us l tb rs x6 i0 (((us.getD i0 []).length : Nat) : Int) (i : Int) = some (v', l', tb') ∧ v'.length = n ∧ WK n l' tb' ∧ (∀ j, Dsub (gi v' j) (gi v j)) ∧ (∀ w, DKeeps rs n w → (∀ j, Dsub (gi w j) (gi v j)) → ∀ j, Dsub (gi w j) (gi v' j)) ∧
      2 * Dpops v' + l'.length ≤ 2 * Dpops v + l.length ∧ (∀ r, DHolds v r ∨ Waits l r → DHolds v' r ∨ Waits l' r) ∧ (∀ (q : Nat) (r : flow_Rule), rs[q]? = some r → (q : Int) ∈ (us.getD i0 []).drop i → DHolds v' r ∨ Waits l' r)
  | 0, i, v, l, tb, h, hv, hw => by
    rw [flow_solver_solve_l25, if_neg (by simp only [decide_eq_true_eq]; omega)]
    refine ⟨v, l, tb, rfl, hv, hw, fun j => Dsub.refl _, fun w _ hh => hh, Nat.le_refl _, fun r hr => hr, fun q r _ hq => ?_⟩
    rw [List.drop_eq_nil_of_le (by omega)] at hq
    cases hq
  | m + 1, i, v, l, tb, h, hv, hw => by
    have hi : iAdd (i : Int) 1 = ((i + 1 : Nat) : Int) := by rw [iAdd_eq (by omega) (by omega)]; omega
    have hlt : i < (us.getD i0 []).length := by omega
    rw [flow_solver_solve_l25, if_pos (decide_eq_true (by omega)), if_pos (decide_eq_true (by omega)), if_pos (decide_eq_true (by omega)), hi]
    have e : List.getD (us.getD i0 []) (Int.toNat (i : Int)) 0 = (us.getD i0 [])[i] := by
      rw [Int.toNat_natCast]
      exact (List.getD_eq_getElem?_getD ..).trans (by rw [List.getElem?_eq_getElem hlt]; rfl)
    obtain ⟨q, hq1, hq2⟩ := hus _ (List.getElem_mem hlt)
    have hdrop : (us.getD i0 []).drop i = (us.getD i0 [])[i] :: (us.getD i0 []).drop (i + 1) := List.drop_eq_getElem_cons hlt
    rw [hdrop, e, hq1, if_pos (decide_eq_true (by omega)), if_pos (decide_eq_true (by omega))]
    have er : List.getD rs (Int.toNat (q : Int)) d_flow_Rule = rs[q] := by simp [List.getD, hq2]
    rw [er]
    obtain ⟨r0, r1⟩ := hrs _ (List.getElem_mem hq2)
    have r1' : rs[q].to_ < (v.length : Int) := by rw [hv]; exact r1
    rw [Dapply_eq v us x6 rs[q] r0 r1']
    simp only [bind, Option.bind_some]
    have hx : rval rs[q] v ||| gi v rs[q].to_ = gi v rs[q].to_ ||| rval rs[q] v := BitVec.or_comm _ _
    obtain ⟨c1, c2, c3⟩ := Dcut_one (l := rs) (x := gi v rs[q].to_ ||| rval rs[q] v) (List.getElem_mem hq2) r0 r1' hx.symm
    have hlen2 : (v.set rs[q].to_.toNat (gi v rs[q].to_ ||| rval rs[q] v)).length = n := by simp [hv]
    have hrq : rs[q]? = some rs[q] := List.getElem?_eq_getElem hq2
    by_cases hc : (gi v rs[q].to_ ||| rval rs[q] v) = gi v rs[q].to_
    · rw [if_neg (by simpa using hc)]
      obtain ⟨d1, d2⟩ := Ddone_step (l := l) (l' := l) r0 r1' (fun _ h => h) (fun hh => absurd hc hh)
      have hpe : v.set rs[q].to_.toNat (gi v rs[q].to_ ||| rval rs[q] v) = v := by
        rw [hc]
        have := gi_get r0 r1'
        rw [← this]; simp
      rw [hpe] at d1 d2 ⊢
      obtain ⟨v', l', tb', q1, q2, q3, q4, q5, q6, q7, q8⟩ := Dl25_eq n hn x1 us rs x6 i0 hrs hus hlen m (i + 1) v l tb (by omega) hv hw
      refine ⟨v', l', tb', q1, q2, q3, q4, q5, q6, q7, fun k r hk hm => ?_⟩
      rcases List.mem_cons.1 hm with hm | hm
      · have : k = q := by omega
        subst this
        rw [hrq] at hk
        cases hk
        exact q7 _ d2
      · exact q8 k r hk hm
    · rw [if_pos (by simpa using hc)]
      obtain ⟨l1, tb1, a1, a2, a3, a4⟩ := add_eq hn hw r0 r1
      rw [a1]
      simp only [Option.bind_some]
      obtain ⟨d1, d2⟩ := Ddone_step (l := l) (l' := l1) r0 r1' (fun y hy => (a3 y).2 (.inl hy)) (fun _ => (a3 _).2 (.inr rfl))
      have hp := c3 hc
      obtain ⟨v', l', tb', q1, q2, q3, q4, q5, q6, q7, q8⟩ := Dl25_eq n hn x1 us rs x6 i0 hrs hus hlen m (i + 1) _ l1 tb1 (by omega) hlen2 a2
      refine ⟨v', l', tb', q1, q2, q3, fun j => (q4 j).trans (c1 j), fun w hk hwv => q5 w hk (c2 w (hv ▸ hk) hwv), by omega, fun r hr => q7 r (d1 r hr), fun k r hk hm => ?_⟩
      rcases List.mem_cons.1 hm with hm | hm
      · have : k = q := by omega
        subst this
        rw [hrq] at hk
        cases hk
        exact q7 _ d2
      · exact q8 k r hk hm
theorem Dl23_eq (n : Nat) (hn : n ≤ 65536) (x1 : List (List Int)) (us : List (List Int)) (rs : List flow_Rule) (x6 : List flow_Rule) (hrs : ∀ r ∈ rs, 0 ≤ r.to_ ∧ r.to_ < (n : Int)) (husl : us.length = n) (hus : ∀ i0 : Nat, ∀ k ∈ us.getD i0 [], ∃ q : Nat, k = (q : Int) ∧ q < rs.length) (hlen : ∀ i0 : Nat, (us.getD i0 []).length ≤ 1000000)
    (huse : ∀ (q : Nat) (r : flow_Rule) (j : Int), rs[q]? = some r → (r.from_ = j ∨ r.also = j) → 0 ≤ j → j < (n : Int) → (q : Int) ∈ us.getD j.toNat []) :
    ∀ (M : Nat) (v : List W32) (l : List Int) (tb : List Bool), 2 * Dpops v + l.length ≤ M → v.length = n → WK n l tb → (∀ r ∈ rs, DHolds v r ∨ Waits l r) →
    ∃ v', flow_solver_solve_l23 v x1 us l tb rs x6 = some v' ∧ v'.length = n ∧ (∀ j, Dsub (gi v' j) (gi v j)) ∧ (∀ w, DKeeps rs n w → (∀ j, Dsub (gi w j) (gi v j)) → ∀ j, Dsub (gi w j) (gi v' j)) ∧ ∀ r ∈ rs, DHolds v' r
  | M, v, l, tb, hM, hv, hw, hall => by
    rw [flow_solver_solve_l23]
    unfold flow_todo_Len
    simp only [bind, Option.bind_some]
    by_cases h0 : 0 < l.length
    · rw [if_pos (decide_eq_true (by omega))]
      obtain ⟨i, l1, tb1, a1, a2, a3, a4, a5⟩ := next_eq hn hw h0
      have hir := hw.rng i a2
      rw [a1]
      simp only [Option.bind_some]
      rw [if_pos (decide_eq_true hir.1), if_pos (decide_eq_true (by rw [husl]; exact hir.2))]
      obtain ⟨v', l', tb', q1, q2, q3, q4, q5, q6, q7, q8⟩ := Dl25_eq n hn x1 us rs x6 i.toNat hrs (hus _) (hlen _) (us.getD i.toNat []).length 0 v l1 tb1 (Nat.zero_add _) hv a3
      rw [show ((0 : Nat) : Int) = 0 from rfl] at q1
      rw [q1]
      simp only [Option.bind_some]
      have hall' : ∀ r ∈ rs, DHolds v' r ∨ Waits l' r := by
        intro r hr
        obtain ⟨q, hq⟩ := List.getElem?_of_mem hr
        by_cases hin : r.from_ = i ∨ r.also = i
        · exact q8 q r hq (by rw [List.drop_zero]; exact huse q r i hq hin hir.1 hir.2)
        · refine q7 r ((hall r hr).imp id fun hwt => ?_)
          rcases hwt with hwt | hwt
          · exact .inl ((a4 _).2 ⟨hwt, fun e => hin (.inl e)⟩)
          · exact .inr ((a4 _).2 ⟨hwt, fun e => hin (.inr e)⟩)
      match M, hM with
      | 0, hM => omega
      | M + 1, hM =>
        obtain ⟨v2, b1, b2, b3, b4, b5⟩ := Dl23_eq n hn x1 us rs x6 hrs husl hus hlen huse M v' l' tb' (by omega) q2 q3 hall'
        exact ⟨v2, b1, b2, fun j => (b3 j).trans (q4 j), fun w hk hwv => b4 w hk (q5 w hk hwv), b5⟩
    · rw [if_neg (by simp only [decide_eq_true_eq]; omega)]
      refine ⟨v, rfl, hv, fun j => Dsub.refl _, fun w _ hh => hh, fun r hr => (hall r hr).resolve_right fun hwt => ?_⟩
      have : l = [] := List.length_eq_zero_iff.1 (by omega)
      subst this
      rcases hwt with h | h <;> cases h
theorem Dl19_eq (n : Nat) (hn : n ≤ 65536) (v : List W32) (x1 x2 : List (List Int)) (x5 x6 : List flow_Rule) : ∀ (m i : Nat) (l : List Int) (tb : List Bool), i + m = n → WK n l tb → 
    ∃ l' tb', flow_solver_solve_l19 v x1 x2 l tb x5 x6 (n : Int) (i : Int) = some (l', tb') ∧ WK n l' tb' ∧ (∀ x, x ∈ l' ↔ x ∈ l ∨ ((i : Int) ≤ x ∧ x < (n : Int)))
  | 0, i, l, tb, h, hw => by
    rw [flow_solver_solve_l19, if_neg (by simp only [decide_eq_true_eq]; omega)]
    exact ⟨l, tb, rfl, hw, fun x => ⟨.inl, fun hx => hx.resolve_right (by omega)⟩⟩
  | m + 1, i, l, tb, h, hw => by
    have hi : iAdd (i : Int) 1 = ((i + 1 : Nat) : Int) := by rw [iAdd_eq (by omega) (by omega)]; omega
    rw [flow_solver_solve_l19, if_pos (decide_eq_true (by omega)), hi]
    obtain ⟨l1, tb1, a1, a2, a3, a4⟩ := add_eq hn hw (i := (i : Int)) (by omega) (by omega)
    rw [a1]
    simp only [bind, Option.bind_some]
    obtain ⟨l', tb', b1, b2, b3⟩ := Dl19_eq n hn v x1 x2 x5 x6 m (i + 1) l1 tb1 (by omega) a2
    refine ⟨l', tb', b1, b2, fun x => ?_⟩
    rw [b3, a3]
    constructor
    · rintro ((h | h) | h)
      · exact .inl h
      · exact .inr (by omega)
      · exact .inr (by omega)
    · rintro (h | h)
      · exact .inl (.inl h)
      · by_cases hx : x = (i : Int)
        · exact .inl (.inr hx)
        · exact .inr (by omega)
/-- What is so in the first pass, behind some rules. -/
structure DFirst (n : Nat) (b : List flow_Rule) (v0 v : List W32) (us : List (List Int)) (l : List Int) (tb : List Bool) (rs : List flow_Rule) (i : Nat) : Prop where
  vl : v.length = n
  ul : us.length = n
  wk : WK n l tb
  isr : ∀ r, r ∈ rs ↔ r ∈ b.take i ∧ 0 ≤ r.to_ ∧ r.to_ < (n : Int)
  rl : rs.length ≤ i
  isu : ∀ i0 : Nat, ∀ k ∈ us.getD i0 [], ∃ q : Nat, k = (q : Int) ∧ q < rs.length
  un : ∀ i0 : Nat, (us.getD i0 []).length ≤ 2 * i
  use : ∀ (q : Nat) (r : flow_Rule) (j : Int), rs[q]? = some r → (r.from_ = j ∨ r.also = j) → 0 ≤ j → j < (n : Int) → (q : Int) ∈ us.getD j.toNat []
  down : ∀ j, Dsub (gi v j) (gi v0 j)
  best : ∀ w, DKeeps b n w → (∀ j, Dsub (gi w j) (gi v0 j)) → ∀ j, Dsub (gi w j) (gi v j)
  hold : ∀ r ∈ rs, ((0 ≤ r.from_ ∧ r.from_ < (n : Int)) ∨ (0 ≤ r.also ∧ r.also < (n : Int))) ∨ DHolds v r
theorem DFirst.next {n : Nat} {b : List flow_Rule} {v0 v : List W32} {us : List (List Int)} {l : List Int} {tb : List Bool} {rs : List flow_Rule} {i : Nat} (h : DFirst n b v0 v us l tb rs i) (hi : i < b.length) (hn : ¬ (0 ≤ b[i].to_ ∧ b[i].to_ < (n : Int))) : DFirst n b v0 v us l tb rs (i + 1) where
  vl := h.vl
  ul := h.ul
  wk := h.wk
  isr := fun r => by
    rw [h.isr, take_one hi]
    constructor
    · rintro ⟨h1, h2⟩; exact ⟨.inl h1, h2⟩
    · rintro ⟨h1 | h1, h2⟩
      · exact ⟨h1, h2⟩
      · subst h1; exact absurd h2 hn
  rl := by have := h.rl; omega
  isu := h.isu
  un := fun i0 => by have := h.un i0; omega
  use := h.use
  down := h.down
  best := h.best
  hold := h.hold
theorem DFirst.rule {n : Nat} {b : List flow_Rule} {v0 v : List W32} {us : List (List Int)} {l l' : List Int} {tb tb' : List Bool} {rs : List flow_Rule} {i : Nat} (h : DFirst n b v0 v us l tb rs i) (hi : i < b.length) (h0 : 0 ≤ b[i].to_) (h1 : b[i].to_ < (n : Int)) (hw : WK n l' tb') :
    DFirst n b v0 (v.set b[i].to_.toNat (gi v b[i].to_ ||| rval b[i] v)) (use1 n (use1 n us b[i].from_ (rs.length : Int)) b[i].also (rs.length : Int)) l' tb' (rs ++ [b[i]]) (i + 1) := by
  have h1' : b[i].to_ < (v.length : Int) := by rw [h.vl]; exact h1
  have hlt : b[i].to_.toNat < v.length := by omega
  obtain ⟨c1, c2, c3⟩ := Dcut_one (l := b) (x := gi v b[i].to_ ||| rval b[i] v) (List.getElem_mem hi) h0 h1' (BitVec.or_comm _ _)
  constructor
  · rw [List.length_set, h.vl]
  · rw [use1_len, use1_len, h.ul]
  · exact hw
  · intro r
    rw [List.mem_append, List.mem_singleton, h.isr, take_one hi]
    constructor
    · rintro (⟨h2, h3⟩ | rfl)
      · exact ⟨.inl h2, h3⟩
      · exact ⟨.inr rfl, h0, h1⟩
    · rintro ⟨h2 | h2, h3⟩
      · exact .inl ⟨h2, h3⟩
      · exact .inr h2
  · have := h.rl
    simp; omega
  · intro i0 k hk
    rcases (use2_get n us h.ul _ _ _ i0 k).1 hk with hk | ⟨rfl, _⟩
    · obtain ⟨q, h2, h3⟩ := h.isu i0 k hk
      exact ⟨q, h2, by simp; omega⟩
    · exact ⟨rs.length, rfl, by simp⟩
  · intro i0
    have h2 := use2_len n us h.ul b[i].from_ b[i].also (rs.length : Int) i0
    have h3 := h.un i0
    omega
  · intro q r j hq hj hj0 hj1
    rw [use2_get n us h.ul]
    rcases get_snoc hq with hq | ⟨rfl, rfl⟩
    · exact .inl (h.use q r j hq hj hj0 hj1)
    · refine .inr ⟨rfl, ?_⟩
      rcases hj with hj | hj
      · exact .inl (by rw [hj]; exact ⟨hj0, hj1, rfl⟩)
      · exact .inr (by rw [hj]; exact ⟨hj0, hj1, rfl⟩)
  · exact fun j => (c1 j).trans (h.down j)
  · exact fun w hk hwv => c2 w (h.vl ▸ hk) (h.best w hk hwv)
  · intro r hr
    by_cases hin : (0 ≤ r.from_ ∧ r.from_ < (n : Int)) ∨ (0 ≤ r.also ∧ r.also < (n : Int))
    · exact .inl hin
    · refine .inr ?_
      have e : rval r (v.set b[i].to_.toNat (gi v b[i].to_ ||| rval b[i] v)) = rval r v := rval_const (by simp) (by rw [List.length_set, h.vl]; exact hin)
      show Dsub _ _
      rw [e]
      rcases List.mem_append.1 hr with hr | hr
      · exact (c1 r.to_).trans ((h.hold r hr).resolve_left hin)
      · rw [List.mem_singleton] at hr
        subst hr
        have hcast : ((b[i].to_.toNat : Nat) : Int) = b[i].to_ := by omega
        have hg := gi_set v _ (gi v b[i].to_ ||| rval b[i] v) hlt b[i].to_
        rw [hg, hcast, if_pos rfl]
        exact Dand_sub_r _ _
theorem Dl5_eq (n : Nat) (hn : n ≤ 65536) (x1 : List (List Int)) (b : List flow_Rule) (hb : b.length ≤ 65536) (v0 : List W32) : ∀ (m i : Nat) (v : List W32) (us : List (List Int)) (l : List Int) (tb : List Bool) (rs : List flow_Rule), i + m = b.length → DFirst n b v0 v us l tb rs i →
    ∃ v' us' l' tb' rs', flow_solver_solve_l5 v x1 us l tb rs b b (b.length : Int) (i : Int) = some (v', us', l', tb', rs') ∧ DFirst n b v0 v' us' l' tb' rs' b.length
  | 0, i, v, us, l, tb, rs, h, hf => by
    rw [flow_solver_solve_l5, if_neg (by simp only [decide_eq_true_eq]; omega)]
    have : i = b.length := by omega
    subst this
    exact ⟨v, us, l, tb, rs, rfl, hf⟩
  | m + 1, i, v, us, l, tb, rs, h, hf => by
    have hi : iAdd (i : Int) 1 = ((i + 1 : Nat) : Int) := by rw [iAdd_eq (by omega) (by omega)]; omega
    have hlt : i < b.length := by omega
    rw [flow_solver_solve_l5, if_pos (decide_eq_true (by omega)), if_pos (decide_eq_true (by omega)), if_pos (decide_eq_true (by omega)), hi]
    have e : List.getD b (Int.toNat (i : Int)) d_flow_Rule = b[i] := by simp [List.getD, hlt]
    rw [e]
    by_cases h0 : b[i].to_ < 0
    · rw [if_pos (decide_eq_true h0)]
      exact Dl5_eq n hn x1 b hb v0 m (i + 1) v us l tb rs (by omega) (hf.next hlt (by omega))
    · rw [if_neg (by simpa using h0)]
      by_cases h1 : b[i].to_ ≥ (v.length : Int)
      · rw [if_pos (decide_eq_true h1)]
        exact Dl5_eq n hn x1 b hb v0 m (i + 1) v us l tb rs (by omega) (hf.next hlt (by rw [hf.vl] at h1; omega))
      · rw [if_neg (by simpa using h1)]
        have h2 := Dl9_eq v x1 l tb rs [b[i].from_, b[i].also] b b[i].to_ b[i].from_ b[i].also b[i].keep b[i].if_ b[i].then_ b (b.length : Int) (i : Int) (by simp) 2 0 us rfl (by rw [hf.ul, hf.vl]) (fun j => by have := hf.un j; omega)
        rw [show ((0 : Nat) : Int) = 0 from rfl] at h2
        rw [h2]
        simp only [bind, Option.bind_some, List.drop_zero, List.foldl_cons, List.foldl_nil]
        rw [if_pos (Nat.ble_eq_true_of_le (by have := hf.rl; simp only [List.length_singleton, reach]; omega))]
        have g0 : 0 ≤ b[i].to_ := by omega
        have g1 : b[i].to_ < (v.length : Int) := by omega
        have g2 : b[i].to_ < (n : Int) := by rw [← hf.vl]; exact g1
        rw [Dapply_eq v _ b b[i] g0 g1, hf.vl]
        simp only [Option.bind_some]
        by_cases hc : (gi v b[i].to_ ||| rval b[i] v) = gi v b[i].to_
        · rw [if_neg (by simpa using hc)]
          exact Dl5_eq n hn x1 b hb v0 m (i + 1) _ _ l tb _ (by omega) (hf.rule hlt g0 g2 hf.wk)
        · rw [if_pos (by simpa using hc)]
          obtain ⟨l1, tb1, a1, a2, a3, a4⟩ := add_eq hn hf.wk g0 g2
          rw [a1]
          simp only [Option.bind_some]
          exact Dl5_eq n hn x1 b hb v0 m (i + 1) _ _ l1 tb1 _ (by omega) (hf.rule hlt g0 g2 a2)
theorem DFirst.start (v0 : List W32) (b : List flow_Rule) : DFirst v0.length b v0 v0 (List.replicate v0.length []) [] (List.replicate v0.length false) [] 0 where
  vl := rfl
  ul := by simp
  wk := ⟨by simp, by simp, by simp, fun i hi => by simp [List.getD, List.getElem?_replicate, hi]⟩
  isr := fun r => by simp
  rl := Nat.le_refl _
  isu := fun i0 k hk => by rw [getD_rep] at hk; cases hk
  un := fun i0 => by rw [getD_rep]; simp
  use := fun q r j hq => by simp at hq
  down := fun j => Dsub.refl _
  best := fun w _ h => h
  hold := fun r hr => by cases hr
theorem Dsolve_eq (v0 : List W32) (x1 : List (List Int)) (b : List flow_Rule) (hv : v0.length ≤ 65536) (hb : b.length ≤ 65536) : ∃ v us, flow_solver_solve v0 x1 b = some (v, us) ∧ Lfp b v0 v := by
  unfold flow_solver_solve
  rw [if_pos (decide_eq_true (by omega)), if_pos (decide_eq_true (by simp only [reach]; omega)), if_pos (decide_eq_true (by simp only [reach]; omega))]
  rw [show Int.toNat ((v0.length : Nat) : Int) = v0.length by omega]
  obtain ⟨v, us, l, tb, rs, h1, hf⟩ := Dl5_eq v0.length hv x1 b hb v0 b.length 0 v0 _ _ _ _ (by omega) (DFirst.start v0 b)
  rw [show ((0 : Nat) : Int) = 0 from rfl] at h1
  rw [h1]
  simp only [bind, Option.bind_some]
  obtain ⟨l', tb', h2, h3, h4⟩ := Dl19_eq v0.length hv v x1 us rs b v0.length 0 l tb (by omega) hf.wk
  rw [show ((0 : Nat) : Int) = 0 from rfl] at h2
  rw [hf.vl, h2]
  simp only [Option.bind_some]
  obtain ⟨v', q1, q2, q3, q4, q5⟩ := Dl23_eq v0.length hv x1 us rs b (fun r hr => ((hf.isr r).1 hr).2) hf.ul hf.isu (fun i0 => by have := hf.un i0; omega) hf.use _ v l' tb' (Nat.le_refl _) hf.vl h3 (fun r hr => by
    rcases hf.hold r hr with (h | h) | h
    · exact .inr (.inl ((h4 _).2 (.inr (by omega))))
    · exact .inr (.inr ((h4 _).2 (.inr (by omega))))
    · exact .inl h)
  rw [q1]
  refine ⟨v', us, rfl, q2, fun j => (q3 j).trans (hf.down j), fun w hk hwv => q4 w (fun r hr => hk r (List.mem_of_mem_take ((hf.isr r).1 hr).1)) (hf.best w hk hwv), fun r hr a0 a1 => ?_⟩
  exact q5 r ((hf.isr r).2 ⟨by rw [List.take_length]; exact hr, a0, a1⟩)
theorem least_eq (n : Int) (b : List flow_Rule) (hb : b.length ≤ 65536) : ∃ v, flow_Least n b = some v ∧ Lfp b (if 0 ≤ n ∧ n ≤ 65536 then List.replicate n.toNat 0#32 else []) v := by
  unfold flow_Least
  have hz : sets_All 0 = some 0#32 := by kernel_rfl
  rw [hz]
  simp only [bind, Option.bind_some]
  rw [start_eq]
  simp only [Option.bind_some]
  obtain ⟨v, us, h1, h2⟩ := Dsolve_eq (if 0 ≤ n ∧ n ≤ 65536 then List.replicate n.toNat 0#32 else []) [] b (by split <;> simp; omega) hb
  rw [h1]
  exact ⟨v, rfl, h2⟩
/-- Where the sets of a function begin. -/
def base (fs : FS) : Nat → Nat
  | 0 => 0
  | f + 1 => base fs f + (2 + (List.getD fs f []).length)
theorem base_le {p : api_Program} (hg : Good p) : ∀ f, base p.funcs f ≤ 66 * f
  | 0 => Nat.le_refl _
  | f + 1 => by
    have h1 := base_le hg f
    have h2 := hg.le f
    rw [base]
    omega
theorem base_mono (fs : FS) : ∀ {f g : Nat}, f < g → base fs f + 2 + (List.getD fs f []).length ≤ base fs g
  | f, 0, h => by omega
  | f, g + 1, h => by
    rw [base]
    rcases Nat.lt_or_ge f g with h1 | h1
    · have := base_mono fs h1; omega
    · have : f = g := by omega
      subst this; omega
structure Bases (p : api_Program) (bs : List Int) : Prop where
  len : bs.length = p.funcs.length
  get : ∀ f, f < p.funcs.length → List.getD bs f 0 = (base p.funcs f : Int)
theorem lay_l4 (p : api_Program) (hg : Good p) (x0 : List Int) : ∀ (m f : Nat) (bs : List Int), f + m = p.funcs.length → bs.length = f → (∀ g, g < f → List.getD bs g 0 = (base p.funcs g : Int)) → ∃ bs', hold_Lay_l4 x0 bs (base p.funcs f : Int) p.funcs (p.funcs.length : Int) (f : Int) = some (bs', (base p.funcs p.funcs.length : Int)) ∧ Bases p bs'
  | 0, f, bs, h, hb, hget => by
    rw [hold_Lay_l4, if_neg (by simp only [decide_eq_true_eq]; omega)]
    have : f = p.funcs.length := by omega
    subst this
    exact ⟨bs, rfl, hb, hget⟩
  | m + 1, f, bs, h, hb, hget => by
    have h1 := hg.funcs
    have h2 := hg.le f
    have h3 := base_le hg f
    rw [hold_Lay_l4, if_pos (decide_eq_true (by omega)), if_pos (decide_eq_true (by omega)), if_pos (decide_eq_true (by omega)), if_pos (Nat.ble_eq_true_of_le (by simp only [List.length_singleton, reach]; omega)), Int.toNat_natCast, inc f (by omega)]
    have e : iAdd (base p.funcs f : Int) (iAdd 2 ((List.getD p.funcs f []).length : Int)) = (base p.funcs (f + 1) : Int) := by
      rw [iAdd_eq (a := 2) (by omega) (by omega), iAdd_eq (by omega) (by omega), base]
      omega
    rw [e]
    refine lay_l4 p hg x0 m (f + 1) _ (by omega) (by simp [hb]) fun g hgf => ?_
    rw [getD_snoc]
    split
    · rename_i e; subst e; rw [hb]
    · exact hget g (by omega)
theorem lay_eq (p : api_Program) (hg : Good p) : ∃ bs, hold_Lay p = some ((base p.funcs p.funcs.length : Int), bs) ∧ Bases p bs := by
  obtain ⟨bs, q1, q2⟩ := lay_l4 p hg [] p.funcs.length 0 [] (Nat.zero_add _) rfl (fun g h => by omega)
  unfold hold_Lay
  rw [show (base p.funcs 0 : Int) = 0 from rfl, show ((0 : Nat) : Int) = 0 from rfl] at q1
  rw [bind_some q1]
  exact ⟨bs, rfl, q2⟩
theorem entry_eq {p : api_Program} {bs : List Int} (hb : Bases p bs) {f : Nat} (hf : f < p.funcs.length) : hold_Places_Entry ⟨bs⟩ (f : Int) = some (base p.funcs f : Int) := by
  have h1 := hb.len
  unfold hold_Places_Entry
  rw [if_pos (decide_eq_true (by omega)), if_pos (decide_eq_true (by show (f : Int) < (bs.length : Int); omega)), Int.toNat_natCast]
  exact congrArg some (hb.get f hf)
theorem exit_eq {p : api_Program} (hg : Good p) {bs : List Int} (hb : Bases p bs) {f : Nat} (hf : f < p.funcs.length) : hold_Places_Exit ⟨bs⟩ (f : Int) = some ((base p.funcs f + 1 : Nat) : Int) := by
  have h1 := hb.len
  have h2 := base_le hg f
  have h3 := hg.funcs
  unfold hold_Places_Exit
  rw [if_pos (decide_eq_true (by omega)), if_pos (decide_eq_true (by show (f : Int) < (bs.length : Int); omega)), Int.toNat_natCast]
  show some (iAdd (List.getD bs f 0) 1) = _
  rw [hb.get f hf, inc _ (by omega)]
theorem node_eq {p : api_Program} (hg : Good p) {bs : List Int} (hb : Bases p bs) {f : Nat} (hf : f < p.funcs.length) {i : Int} (h0 : 0 ≤ i) (h1 : i ≤ 65536) : hold_Places_Node ⟨bs⟩ (f : Int) i = some ((base p.funcs f + 2 + i.toNat : Nat) : Int) := by
  have h2 := hb.len
  have h3 := base_le hg f
  have h4 := hg.funcs
  unfold hold_Places_Node
  rw [if_pos (decide_eq_true (by omega)), if_pos (decide_eq_true (by show (f : Int) < (bs.length : Int); omega)), Int.toNat_natCast]
  show some (iAdd (iAdd (List.getD bs f 0) 2) i) = _
  rw [hb.get f hf, iAdd_eq (a := (base p.funcs f : Int)) (by omega) (by omega), iAdd_eq (by omega) (by omega)]
  congr 1
  omega
abbrev allW : W32 := 4294967295#32
/-- The rules that a node's successors have. -/
def sucL (fs : FS) (f : Nat) (js : List Int) (own also : Int) (keep if_ then_ : W32) : List flow_Rule := js.map fun y => ⟨((base fs f + 2 + y.toNat : Nat) : Int), own, also, keep, if_, then_⟩
def nodeRL (p : api_Program) (bg : W32) (f i : Nat) : List flow_Rule :=
  let own : Int := ((base p.funcs f + 2 + i : Nat) : Int)
  let js := succ (nde p f i)
  if (nde p f i).kind = 6 then sucL p.funcs f js own (-1) (~~~(one (nde p f i).arg)) 0#32 0#32
  else if (nde p f i).kind = 7 then ⟨(base p.funcs (nde p f i).arg.toNat : Int), own, -1, allW, 0#32, 0#32⟩ :: sucL p.funcs f js ((base p.funcs (nde p f i).arg.toNat + 1 : Nat) : Int) (-1) allW 0#32 0#32
  else if (nde p f i).kind = 9 then ⟨((base p.funcs f + 1 : Nat) : Int), own, -1, allW, 0#32, 0#32⟩ :: sucL p.funcs f js own (-1) allW 0#32 0#32
  else if (nde p f i).kind = 5 then (⟨(base p.funcs (nde p f i).arg.toNat : Int), -1, -1, 0#32, 0#32, one p.slots⟩ :: sucL p.funcs f js own (-1) 0#32 (one (nde p f i).alt) (one p.slots)) ++ sucL p.funcs f js own (-1) allW 0#32 (if hasb bg (nde p f i).arg = true then one (nde p f i).alt ||| one p.slots else one (nde p f i).alt)
  else sucL p.funcs f js own (-1) allW 0#32 0#32
theorem sucL_len (fs : FS) (f : Nat) (x : api_Node) (own also : Int) (keep if_ then_ : W32) : (sucL fs f (succ x) own also keep if_ then_).length ≤ 2 := by
  unfold sucL
  rw [List.length_map]
  exact succ_len x
theorem nodeRL_len (p : api_Program) (bg : W32) (f i : Nat) : (nodeRL p bg f i).length ≤ 5 := by
  have h := sucL_len p.funcs f (nde p f i)
  have h' : ∀ own also keep if_ then_, (sucL p.funcs f (succ (nde p f i)) own also keep if_ then_).length ≤ 5 := fun a b c d e => Nat.le_trans (h a b c d e) (by omega)
  unfold nodeRL
  simp only []
  split
  · exact h' _ _ _ _ _
  · split
    · rw [List.length_cons]; exact Nat.le_trans (Nat.succ_le_succ (h _ _ _ _ _)) (by omega)
    · split
      · rw [List.length_cons]; exact Nat.le_trans (Nat.succ_le_succ (h _ _ _ _ _)) (by omega)
      · split
        · rw [List.length_append, List.length_cons]
          have h1 := h ((base p.funcs f + 2 + i : Nat) : Int) (-1) 0#32 (one (nde p f i).alt) (one p.slots)
          have h2 := h ((base p.funcs f + 2 + i : Nat) : Int) (-1) allW 0#32 (if hasb bg (nde p f i).arg = true then one (nde p f i).alt ||| one p.slots else one (nde p f i).alt)
          omega
        · exact h' _ _ _ _ _
theorem ruleL_eq (l1 : List Int) (l3 : List flow_Rule) (b0 b01 b02 : Int) (b03 : FS) (b04 b05 : W32) (r : flow_Rule) (h : l3.length ≤ 65536) : live_maker_rule l1 l3 b0 b01 b02 b03 b04 b05 r = some (l3 ++ [r]) := by
  unfold live_maker_rule
  rw [if_pos (Nat.ble_eq_true_of_le (by simp only [List.length_singleton, reach]; omega))]
theorem goes_l2 (p : api_Program) (hg : Good p) (bs : List Int) (hb : Bases p bs) (js : List Int) (hj : js.length ≤ 2) (hjr : ∀ y ∈ js, 0 ≤ y ∧ y ≤ 65536) (x4 x5 x6 : Int) (x7 : FS) (x8 x9 : W32) (own also : Int) (keep if_ th : W32) (f : Nat) (hf : f < p.funcs.length) : ∀ (m k : Nat) (out : List flow_Rule) (to : Int), k + m = js.length → out.length + m ≤ 65536 → live_maker_goes_l2 bs out js x4 x5 x6 x7 x8 x9 to own also keep if_ th (f : Int) (js.length : Int) (k : Int) = some (out ++ sucL p.funcs f (js.drop k) own also keep if_ th)
  | 0, k, out, to, h, ho => by
    rw [live_maker_goes_l2, if_neg (by simp only [decide_eq_true_eq]; omega), List.drop_eq_nil_of_le (by omega)]
    simp [sucL]
  | m + 1, k, out, to, h, ho => by
    have hlt : k < js.length := by omega
    have hg1 : List.getD js k 0 = js[k] := by simp [List.getD, hlt]
    have hr := hjr _ (List.getElem_mem hlt)
    rw [live_maker_goes_l2, if_pos (decide_eq_true (by omega)), if_pos (decide_eq_true (by omega)), if_pos (decide_eq_true (by omega)), Int.toNat_natCast, hg1, bind_some (node_eq hg hb hf hr.1 hr.2), bind_some (ruleL_eq _ _ _ _ _ _ _ _ _ (by omega)), inc k (by omega), goes_l2 p hg bs hb js hj hjr x4 x5 x6 x7 x8 x9 own also keep if_ th f hf m (k + 1) _ _ (by omega) (by rw [List.length_append, List.length_singleton]; omega), List.append_assoc, List.singleton_append, List.drop_eq_getElem_cons hlt]
    rfl
theorem goes_eq (p : api_Program) (hg : Good p) (bs : List Int) (hb : Bases p bs) (x : api_Node) (hjr : ∀ y ∈ succ x, 0 ≤ y ∧ y ≤ 65536) (x4 x5 x6 : Int) (x7 : FS) (x8 x9 : W32) (to own also : Int) (keep if_ th : W32) (f : Nat) (hf : f < p.funcs.length) (out : List flow_Rule) (ho : out.length + 2 ≤ 65536) : live_maker_goes bs out x4 x5 x6 x7 x8 x9 (f : Int) x ⟨to, own, also, keep, if_, th⟩ = some (out ++ sucL p.funcs f (succ x) own also keep if_ th) := by
  have h1 := succ_len x
  have q := goes_l2 p hg bs hb (succ x) h1 hjr x4 x5 x6 x7 x8 x9 own also keep if_ th f hf _ 0 out to (Nat.zero_add _) (by omega)
  rw [show ((0 : Nat) : Int) = 0 from rfl, List.drop_zero] at q
  unfold live_maker_goes
  rw [bind_some (succ_eq x)]
  simp only []
  rw [bind_some q]
theorem makerL_node (p : api_Program) (hg : Good p) (bs : List Int) (hb : Bases p bs) (bg : W32) (out : List flow_Rule) (ho : out.length + 5 ≤ 65536) (b0 b01 b02 : Int) (f i : Nat) (hf : f < p.funcs.length) (hi : i < (List.getD p.funcs f []).length) : live_maker_node bs out b0 b01 b02 p.funcs (one p.slots) bg (f : Int) (i : Int) = some (out ++ nodeRL p bg f i) := by
  have hok := hg.node f i hf hi
  have hle := hg.le f
  have hjr := succ_ok hok (by omega)
  have hjr' : ∀ y ∈ succ (nde p f i), 0 ≤ y ∧ y ≤ 65536 := fun y hy => by have := hjr y hy; omega
  have hsl := sucL_len p.funcs f (nde p f i)
  have hc := hok.call
  have hsp := hok.spawn
  have e1 : ∀ (r : flow_Rule), (out ++ [r]).length = out.length + 1 := fun r => by rw [List.length_append, List.length_singleton]
  unfold live_maker_node
  rw [if_pos (decide_eq_true (by omega)), if_pos (decide_eq_true (by omega)), if_pos (decide_eq_true (by omega)), Int.toNat_natCast f, if_pos (decide_eq_true (by omega)), Int.toNat_natCast i, bind_some (node_eq hg hb hf (i := (i : Int)) (by omega) (by omega)), Int.toNat_natCast i]
  unfold nodeRL
  simp only []
  by_cases h6 : (nde p f i).kind = 6
  · rw [if_pos (eqT h6), if_pos h6, bind_some (one_eq _), bind_some (goes_eq p hg bs hb (nde p f i) hjr' _ _ _ _ _ _ _ _ _ _ _ _ f hf _ (by omega))]
  rw [if_neg (eqF h6), if_neg h6]
  by_cases h7 : (nde p f i).kind = 7
  · have ha := hc h7
    obtain ⟨a, ha2⟩ : ∃ a : Nat, (List.getD (List.getD p.funcs f []) i d_api_Node).arg = (a : Int) := ⟨(List.getD (List.getD p.funcs f []) i d_api_Node).arg.toNat, by omega⟩
    rw [ha2] at ha
    rw [if_pos (eqT h7), if_pos h7, ha2, Int.toNat_natCast a, bind_some (entry_eq hb (by omega)), bind_some (ruleL_eq _ _ _ _ _ _ _ _ _ (by omega)), bind_some (exit_eq hg hb (by omega)), bind_some (goes_eq p hg bs hb (nde p f i) hjr' _ _ _ _ _ _ _ _ _ _ _ _ f hf _ (by rw [e1]; omega)), List.append_assoc, List.singleton_append]
  rw [if_neg (eqF h7), if_neg h7]
  by_cases h9 : (nde p f i).kind = 9
  · rw [if_pos (eqT h9), if_pos h9, bind_some (exit_eq hg hb hf), bind_some (ruleL_eq _ _ _ _ _ _ _ _ _ (by omega)), bind_some (goes_eq p hg bs hb (nde p f i) hjr' _ _ _ _ _ _ _ _ _ _ _ _ f hf _ (by rw [e1]; omega)), List.append_assoc, List.singleton_append]
  rw [if_neg (eqF h9), if_neg h9]
  by_cases h5 : (nde p f i).kind = 5
  · have ha := hsp h5
    obtain ⟨a, ha2⟩ : ∃ a : Nat, (List.getD (List.getD p.funcs f []) i d_api_Node).arg = (a : Int) := ⟨(List.getD (List.getD p.funcs f []) i d_api_Node).arg.toNat, by omega⟩
    rw [ha2] at ha
    have hl2 := hsl ((base p.funcs f + 2 + i : Nat) : Int) (-1) 0#32 (one (List.getD (List.getD p.funcs f []) i d_api_Node).alt) (one p.slots)
    rw [if_pos (eqT h5), if_pos h5, ha2, Int.toNat_natCast a, bind_some (entry_eq hb (by omega)), bind_some (ruleL_eq _ _ _ _ _ _ _ _ _ (by omega)), bind_some (one_eq _), bind_some (goes_eq p hg bs hb (nde p f i) hjr' _ _ _ _ _ _ _ _ _ _ _ _ f hf _ (by rw [e1]; omega)), bind_some (one_eq _), bind_some (show sets_Has bg (a : Int) = some (hasb bg (a : Int)) from has_eq _ _)]
    have e2 : ∀ (r : flow_Rule) (s t : List flow_Rule), out ++ [r] ++ s ++ t = out ++ (r :: s ++ t) := fun r s t => by simp
    by_cases hb5 : hasb bg (a : Int) = true
    · rw [if_pos hb5, if_pos hb5, bind_some (goes_eq p hg bs hb (nde p f i) hjr' _ _ _ _ _ _ _ _ _ _ _ _ f hf _ (by rw [List.length_append, e1]; omega)), e2]
    · rw [if_neg hb5, if_neg hb5, bind_some (goes_eq p hg bs hb (nde p f i) hjr' _ _ _ _ _ _ _ _ _ _ _ _ f hf _ (by rw [List.length_append, e1]; omega)), e2]
  · rw [if_neg (eqF h5), if_neg h5, bind_some (goes_eq p hg bs hb (nde p f i) hjr' _ _ _ _ _ _ _ _ _ _ _ _ f hf _ (by omega))]
def nodesRL (p : api_Program) (bg : W32) (f : Nat) : Nat → Nat → List flow_Rule
  | _, 0 => []
  | i, m + 1 => nodeRL p bg f i ++ nodesRL p bg f (i + 1) m
theorem nodesRL_len (p : api_Program) (bg : W32) (f : Nat) : ∀ (m i : Nat), (nodesRL p bg f i m).length ≤ 5 * m
  | 0, i => Nat.zero_le _
  | m + 1, i => by
    have h1 := nodesRL_len p bg f m (i + 1)
    have h2 := nodeRL_len p bg f i
    rw [nodesRL, List.length_append]
    omega
theorem nodesRL_mem {p : api_Program} {bg : W32} {f : Nat} {r : flow_Rule} : ∀ {m i : Nat}, r ∈ nodesRL p bg f i m ↔ ∃ k, i ≤ k ∧ k < i + m ∧ r ∈ nodeRL p bg f k
  | 0, i => by
    rw [nodesRL]
    exact ⟨(fun h => by cases h), fun ⟨k, h1, h2, _⟩ => by omega⟩
  | m + 1, i => by
    rw [nodesRL, List.mem_append, nodesRL_mem]
    constructor
    · rintro (h | ⟨k, h1, h2, h3⟩)
      · exact ⟨i, Nat.le_refl _, by omega, h⟩
      · exact ⟨k, by omega, by omega, h3⟩
    · rintro ⟨k, h1, h2, h3⟩
      rcases Nat.eq_or_lt_of_le h1 with rfl | h4
      · exact .inl h3
      · exact .inr ⟨k, h4, by omega, h3⟩
theorem rulesL_l11 (p : api_Program) (hg : Good p) (bs : List Int) (hb : Bases p bs) (bg : W32) (x3 x4 x5 : Int) (f : Nat) (hf : f < p.funcs.length) (x9 : FS) (x10 x11 : Int) : ∀ (m i : Nat) (out : List flow_Rule), i + m = (List.getD p.funcs f []).length → out.length + 5 * m ≤ 65000 → live_Rules_l11 bs out x3 x4 x5 p.funcs (one p.slots) bg (f : Int) x9 x10 x11 ((List.getD p.funcs f []).length : Int) (i : Int) = some (out ++ nodesRL p bg f i m)
  | 0, i, out, h, ho => by
    rw [live_Rules_l11, if_neg (by simp only [decide_eq_true_eq]; omega)]
    simp [nodesRL]
  | m + 1, i, out, h, ho => by
    have h1 := nodeRL_len p bg f i
    have hle := hg.le f
    rw [live_Rules_l11, if_pos (decide_eq_true (by omega)), bind_some (makerL_node p hg bs hb bg out (by omega) x3 x4 x5 f i hf (by omega)), inc i (by omega), rulesL_l11 p hg bs hb bg x3 x4 x5 f hf x9 x10 x11 m (i + 1) _ (by omega) (by rw [List.length_append]; omega), nodesRL, List.append_assoc]
def funcRL (p : api_Program) (bg : W32) (f : Nat) : List flow_Rule := ⟨((base p.funcs f + 2 + 0 : Nat) : Int), (base p.funcs f : Int), -1, allW, 0#32, 0#32⟩ :: nodesRL p bg f 0 (List.getD p.funcs f []).length
theorem funcRL_len {p : api_Program} (hg : Good p) (bg : W32) (f : Nat) : (funcRL p bg f).length ≤ 322 := by
  have h1 := nodesRL_len p bg f (List.getD p.funcs f []).length 0
  have h2 := hg.le f
  unfold funcRL
  rw [List.length_cons]
  omega
def funcsRL (p : api_Program) (bg : W32) : Nat → Nat → List flow_Rule
  | _, 0 => []
  | f, m + 1 => funcRL p bg f ++ funcsRL p bg (f + 1) m
theorem funcsRL_len {p : api_Program} (hg : Good p) (bg : W32) : ∀ (m f : Nat), (funcsRL p bg f m).length ≤ 322 * m
  | 0, f => Nat.zero_le _
  | m + 1, f => by
    have h1 := funcsRL_len hg bg m (f + 1)
    have h2 := funcRL_len hg bg f
    rw [funcsRL, List.length_append]
    omega
theorem funcsRL_mem {p : api_Program} {bg : W32} {r : flow_Rule} : ∀ {m f : Nat}, r ∈ funcsRL p bg f m ↔ ∃ k, f ≤ k ∧ k < f + m ∧ r ∈ funcRL p bg k
  | 0, f => by
    rw [funcsRL]
    exact ⟨(fun h => by cases h), fun ⟨k, h1, h2, _⟩ => by omega⟩
  | m + 1, f => by
    rw [funcsRL, List.mem_append, funcsRL_mem]
    constructor
    · rintro (h | ⟨k, h1, h2, h3⟩)
      · exact ⟨f, Nat.le_refl _, by omega, h⟩
      · exact ⟨k, by omega, by omega, h3⟩
    · rintro ⟨k, h1, h2, h3⟩
      rcases Nat.eq_or_lt_of_le h1 with rfl | h4
      · exact .inl h3
      · exact .inr ⟨k, h4, by omega, h3⟩
theorem rulesL_l7 (p : api_Program) (hg : Good p) (bs : List Int) (hb : Bases p bs) (bg : W32) (x3 x4 x5 : Int) : ∀ (m f : Nat) (out : List flow_Rule), f + m = p.funcs.length → out.length + 322 * m ≤ 60000 → live_Rules_l7 bs out x3 x4 x5 p.funcs (one p.slots) bg p.funcs (p.funcs.length : Int) (f : Int) = some (out ++ funcsRL p bg f m)
  | 0, f, out, h, ho => by
    rw [live_Rules_l7, if_neg (by simp only [decide_eq_true_eq]; omega)]
    simp [funcsRL]
  | m + 1, f, out, h, ho => by
    have hn := hg.funcs
    have hle := hg.le f
    have hfl := funcRL_len hg bg f
    have h0 := node_eq hg hb (f := f) (by omega) (i := 0) (Int.le_refl _) (by omega)
    rw [show (0 : Int).toNat = 0 from rfl] at h0
    have ih := rulesL_l7 p hg bs hb bg x3 x4 x5 m (f + 1) (out ++ funcRL p bg f) (by omega) (by rw [List.length_append]; omega)
    rw [live_Rules_l7, if_pos (decide_eq_true (by omega)), if_pos (decide_eq_true (by omega)), if_pos (decide_eq_true (by omega)), Int.toNat_natCast f, inc f (by omega)]
    unfold funcRL at ih
    have q := rulesL_l11 p hg bs hb bg x3 x4 x5 f (by omega) p.funcs (p.funcs.length : Int) (f : Int) (List.getD p.funcs f []).length 0 (out ++ [⟨((base p.funcs f + 2 + 0 : Nat) : Int), (base p.funcs f : Int), -1, allW, 0#32, 0#32⟩]) (Nat.zero_add _) (by simp only [List.length_append, List.length_singleton]; omega)
    rw [show ((0 : Nat) : Int) = 0 from rfl] at q
    rw [bind_some h0, bind_some (entry_eq hb (by omega)), bind_some (ruleL_eq _ _ _ _ _ _ _ _ _ (by omega))]
    rw [bind_some q, show ∀ (N : flow_Rule) (t : List flow_Rule), out ++ [N] ++ t = out ++ (N :: t) from fun N t => by simp]
    refine ih.trans ?_
    rw [funcsRL]
    unfold funcRL
    rw [List.append_assoc]
theorem rulesL_eq (p : api_Program) (hg : Good p) {bg : W32} (h : kill_Begins p = some (bg, 0)) : live_Rules p = some (0, funcsRL p bg 0 p.funcs.length) := by
  have hn := hg.funcs
  obtain ⟨bs, b1, b2⟩ := lay_eq p hg
  have q := rulesL_l7 p hg bs b2 bg p.globals p.locks p.slots p.funcs.length 0 [] (Nat.zero_add _) (by rw [List.length_nil]; omega)
  rw [show ((0 : Nat) : Int) = 0 from rfl, List.nil_append] at q
  unfold live_Rules
  rw [bind_some h, if_neg (show ¬ ((0 : Int) != 0) = true by decide), bind_some (show may_Lost p = some p.slots from rfl), bind_some (one_eq _), bind_some b1, bind_some q]
/-- Sets that are laid as sections tell. -/
structure LaysL (p : api_Program) (l : List api_Section) (w : List W32) : Prop where
  len : w.length = base p.funcs p.funcs.length
  ent : ∀ f, f < p.funcs.length → gi w (base p.funcs f : Int) = (sec l f).liveEntry
  exi : ∀ f, f < p.funcs.length → gi w ((base p.funcs f + 1 : Nat) : Int) = (sec l f).liveExit
  nod : ∀ f i, f < p.funcs.length → i < (List.getD p.funcs f []).length → gi w ((base p.funcs f + 2 + i : Nat) : Int) = liv l f i
theorem gi_neg (w : List W32) : gi w (-1) = 0#32 := by
  unfold gi
  rw [if_neg (by omega)]
theorem rval0 {w : List W32} {to own also : Int} {keep th X : W32} (hX : ((gi w own &&& keep) ||| gi w also) ||| th = X) : rval ⟨to, own, also, keep, 0#32, th⟩ w = X := by
  unfold rval
  rw [if_pos (.inl rfl)]
  exact hX
theorem and_all (a : W32) : a &&& allW = a := by
  apply BitVec.eq_of_getLsbD_eq
  intro i hi
  rw [show allW = BitVec.allOnes 32 from rfl, BitVec.getLsbD_and, BitVec.getLsbD_allOnes]
  simp [hi]
theorem x_plain (w : List W32) (own : Int) : ((gi w own &&& allW) ||| gi w (-1)) ||| 0#32 = gi w own := by
  rw [gi_neg, and_all]; simp
theorem base_lt {p : api_Program} {f k : Nat} (hf : f < p.funcs.length) (hk : k < 2 + (List.getD p.funcs f []).length) : base p.funcs f + k < base p.funcs p.funcs.length := by
  have := base_mono p.funcs hf
  omega
theorem suc_keepsL {p : api_Program} {l : List api_Section} {w : List W32} (hL : LaysL p l w) {f : Nat} (hf : f < p.funcs.length) {js : List Int} (hj : ∀ y ∈ js, 0 ≤ y ∧ y < ((List.getD p.funcs f []).length : Int)) {own also : Int} {keep if_ th X : W32} (hX : ∀ to, rval ⟨to, own, also, keep, if_, th⟩ w = X) :
    (∀ r ∈ sucL p.funcs f js own also keep if_ th, 0 ≤ r.to_ → r.to_ < (base p.funcs p.funcs.length : Int) → Dsub (gi w r.to_) (rval r w)) ↔ js.all (fun y => subb X (liv l f y.toNat)) = true := by
  rw [List.all_eq_true]
  constructor
  · intro h y hy
    have hr := hj y hy
    have hb := base_lt (p := p) hf (k := 2 + y.toNat) (by omega)
    have := h _ (List.mem_map.2 ⟨y, hy, rfl⟩) (by show (0 : Int) ≤ ((_ : Nat) : Int); omega) (by show ((base p.funcs f + 2 + y.toNat : Nat) : Int) < _; omega)
    rw [hX] at this
    rw [show (gi w ((base p.funcs f + 2 + y.toNat : Nat) : Int)) = liv l f y.toNat from hL.nod f _ hf (by omega)] at this
    exact subb_iff.2 this
  · intro h r hr _ _
    obtain ⟨y, hy, rfl⟩ := List.mem_map.1 hr
    have hr := hj y hy
    rw [hX]
    show Dsub (gi w ((base p.funcs f + 2 + y.toNat : Nat) : Int)) X
    rw [hL.nod f _ hf (by omega)]
    exact subb_iff.1 (h y hy)
theorem one_keepsL {N : Nat} {w : List W32} {to own also : Int} {keep th X Y : W32} (h0 : 0 ≤ to) (h1 : to < (N : Int)) (hX : ((gi w own &&& keep) ||| gi w also) ||| th = X) (hY : gi w to = Y) : (0 ≤ to → to < (N : Int) → Dsub (gi w to) (rval ⟨to, own, also, keep, 0#32, th⟩ w)) ↔ subb X Y = true := by
  rw [rval0 hX, hY]
  exact ⟨fun h => subb_iff.2 (h h0 h1), fun h _ _ => subb_iff.1 h⟩
theorem nodeL_iff {p : api_Program} {l : List api_Section} {bg : W32} {f i : Nat} : nodeL p l bg f i = 0 ↔ ((nde p f i).kind = 7 → subb (liv l f i) (sec l (nde p f i).arg.toNat).liveEntry = true) ∧ ((nde p f i).kind = 9 → subb (liv l f i) (sec l f).liveExit = true) ∧ ((nde p f i).kind = 5 → hasb (sec l (nde p f i).arg.toNat).liveEntry p.slots = true) ∧ onL p l bg f i = true :=
  ⟨nodeL_zero, fun ⟨h1, h2, h3, h4⟩ => by rw [nodeL_r h1 h2 h3, if_pos h4]⟩
theorem subb_orL {a b c : W32} : subb (a ||| b) c = true ↔ subb a c = true ∧ subb b c = true := by
  rw [subb_iff, subb_iff, subb_iff]
  constructor
  · intro h
    exact ⟨fun i hi => h i (by rw [BitVec.getLsbD_or, hi]; rfl), fun i hi => h i (by rw [BitVec.getLsbD_or, hi, Bool.or_true])⟩
  · rintro ⟨h1, h2⟩ i hi
    rw [BitVec.getLsbD_or, Bool.or_eq_true] at hi
    exact hi.elim (h1 i) (h2 i)
theorem all_and {js : List Int} {q r s : Int → Bool} (h : ∀ y, s y = true ↔ q y = true ∧ r y = true) : js.all s = true ↔ js.all q = true ∧ js.all r = true := by
  rw [List.all_eq_true, List.all_eq_true, List.all_eq_true]
  exact ⟨fun g => ⟨fun y hy => ((h y).1 (g y hy)).1, fun y hy => ((h y).1 (g y hy)).2⟩, fun g y hy => (h y).2 ⟨g.1 y hy, g.2 y hy⟩⟩
theorem subb_one {id : Int} (h0 : 0 ≤ id) (h1 : id < 32) (a : W32) : subb (one id) a = true ↔ hasb a id = true := by
  unfold hasb
  rw [if_pos ⟨h0, h1⟩, subb_iff]
  constructor
  · intro h
    exact h _ ((one_bit id _).2 ⟨by omega, by omega⟩)
  · intro h i hi
    obtain ⟨h2, _⟩ := (one_bit id i).1 hi
    have : i = id.toNat := by omega
    rw [this]
    exact h
theorem and_one {id : Int} (h0 : 0 ≤ id) (h1 : id < 32) (a : W32) : a &&& one id ≠ 0#32 ↔ hasb a id = true := by
  unfold hasb
  rw [if_pos ⟨h0, h1⟩, ne_zero_iff]
  constructor
  · rintro ⟨i, hi⟩
    rw [BitVec.getLsbD_and, Bool.and_eq_true, one_bit] at hi
    have : i = id.toNat := by omega
    rw [← this]
    exact hi.1
  · intro h
    exact ⟨id.toNat, by rw [BitVec.getLsbD_and, h, Bool.true_and, one_bit]; omega⟩
theorem one_ne {id : Int} (h0 : 0 ≤ id) (h1 : id < 32) : one id ≠ 0#32 := ne_zero_iff.2 ⟨id.toNat, (one_bit id _).2 ⟨by omega, by omega⟩⟩
theorem rval_if {w : List W32} {own id : Int} {th : W32} (h0 : 0 ≤ id) (h1 : id < 32) (to : Int) : rval ⟨to, own, -1, 0#32, one id, th⟩ w = if hasb (gi w own) id = true then th else 0#32 := by
  unfold rval
  simp only []
  rw [gi_neg]
  by_cases h : hasb (gi w own) id = true
  · rw [if_pos (.inr ((and_one h0 h1 _).2 h)), if_pos h]; simp
  · rw [if_neg (fun hh => hh.elim (one_ne h0 h1) fun hh => h ((and_one h0 h1 _).1 hh)), if_neg h]; simp
theorem node_keepsL {p : api_Program} (hg : Good p) {l : List api_Section} {w : List W32} {bg : W32} (hL : LaysL p l w) {f i : Nat} (hf : f < p.funcs.length) (hi : i < (List.getD p.funcs f []).length) :
    (∀ r ∈ nodeRL p bg f i, 0 ≤ r.to_ → r.to_ < (base p.funcs p.funcs.length : Int) → Dsub (gi w r.to_) (rval r w)) ↔ nodeL p l bg f i = 0 := by
  have hok := hg.node f i hf hi
  have hjr := succ_ok hok (by omega)
  have hown := hL.nod f i hf hi
  have hsl := hg.slots
  have hc : (nde p f i).kind = 7 → 0 ≤ (nde p f i).arg ∧ (nde p f i).arg < p.funcs.length := hok.call
  have hsp : (nde p f i).kind = 5 → 0 ≤ (nde p f i).arg ∧ (nde p f i).arg < p.funcs.length ∧ 0 ≤ (nde p f i).alt ∧ (nde p f i).alt < p.slots := hok.spawn
  rw [nodeL_iff]
  unfold nodeRL onL lbh xit
  simp only []
  by_cases h6 : (nde p f i).kind = 6
  · have n5 : (nde p f i).kind ≠ 5 := by omega
    rw [if_pos h6, suc_keepsL hL hf hjr (X := liv l f i &&& ~~~(one (nde p f i).arg)) (fun to => rval0 (by rw [gi_neg, hown]; simp)), if_neg n5, if_pos h6]
    exact ⟨fun h => ⟨fun h7 => by omega, fun h9 => by omega, fun h5 => by omega, h⟩, fun h => h.2.2.2⟩
  rw [if_neg h6]
  by_cases h7 : (nde p f i).kind = 7
  · have ha := hc h7
    have n5 : (nde p f i).kind ≠ 5 := by omega
    have hb := base_lt (p := p) (f := (nde p f i).arg.toNat) (by omega) (k := 0) (by omega)
    rw [if_pos h7, List.forall_mem_cons, one_keepsL (by omega) (by omega) (x_plain w _) (hL.ent _ (by omega)), hown, suc_keepsL hL hf hjr (X := (sec l (nde p f i).arg.toNat).liveExit) (fun to => rval0 (by rw [x_plain, hL.exi _ (by omega)])), if_neg n5, if_neg h6, if_pos h7, if_pos h7]
    exact ⟨fun h => ⟨fun _ => h.1, fun h9 => by omega, fun h5 => by omega, h.2⟩, fun h => ⟨h.1 h7, h.2.2.2⟩⟩
  rw [if_neg h7]
  by_cases h9 : (nde p f i).kind = 9
  · have hb := base_lt (p := p) hf (k := 1) (by omega)
    have n5 : (nde p f i).kind ≠ 5 := by omega
    rw [if_pos h9, List.forall_mem_cons, one_keepsL (by omega) (by omega) (x_plain w _) (hL.exi _ hf), suc_keepsL hL hf hjr (X := liv l f i) (fun to => rval0 (by rw [x_plain, hown])), hown, if_neg n5, if_neg h6, if_neg h7]
    exact ⟨fun h => ⟨fun h => absurd h h7, fun _ => h.1, fun h5 => absurd h5 n5, h.2⟩, fun h => ⟨h.2.1 h9, h.2.2.2⟩⟩
  rw [if_neg h9]
  by_cases h5 : (nde p f i).kind = 5
  · have ha := hsp h5
    have hb := base_lt (p := p) (f := (nde p f i).arg.toNat) (by omega) (k := 0) (by omega)
    rw [if_pos h5, List.forall_mem_append, List.forall_mem_cons, one_keepsL (X := one p.slots) (by omega) (by omega) (by rw [gi_neg]; simp) (hL.ent _ (by omega)), subb_one hsl.1 (by omega), suc_keepsL hL hf hjr (X := if hasb (liv l f i) (nde p f i).alt = true then one p.slots else 0#32) (fun to => by rw [rval_if ha.2.2.1 (by omega), hown]), suc_keepsL hL hf hjr (X := liv l f i ||| (if hasb bg (nde p f i).arg = true then one (nde p f i).alt ||| one p.slots else one (nde p f i).alt)) (fun to => rval0 (by rw [gi_neg, and_all, hown]; simp)), if_pos h5]
    have hall : (succ (nde p f i)).all (fun y => subb ((liv l f i ||| one (nde p f i).alt) ||| (if hasb bg (nde p f i).arg = true ∨ hasb (liv l f i) (nde p f i).alt = true then one p.slots else 0#32)) (liv l f y.toNat)) = true ↔ (succ (nde p f i)).all (fun y => subb (if hasb (liv l f i) (nde p f i).alt = true then one p.slots else 0#32) (liv l f y.toNat)) = true ∧ (succ (nde p f i)).all (fun y => subb (liv l f i ||| (if hasb bg (nde p f i).arg = true then one (nde p f i).alt ||| one p.slots else one (nde p f i).alt)) (liv l f y.toNat)) = true := by
      refine all_and fun y => ?_
      have hz : subb 0#32 (liv l f y.toNat) = true := subb_iff.2 fun i h => by simp at h
      by_cases c1 : hasb bg (nde p f i).arg = true <;> by_cases c2 : hasb (liv l f i) (nde p f i).alt = true
      · rw [if_pos (.inl c1), if_pos c2, if_pos c1, subb_orL, subb_orL, subb_orL, subb_orL]
        exact ⟨fun ⟨⟨a, b⟩, c⟩ => ⟨c, a, b, c⟩, fun ⟨_, a, b, c⟩ => ⟨⟨a, b⟩, c⟩⟩
      · rw [if_pos (.inl c1), if_neg c2, if_pos c1, subb_orL, subb_orL, subb_orL, subb_orL]
        exact ⟨fun ⟨⟨a, b⟩, c⟩ => ⟨hz, a, b, c⟩, fun ⟨_, a, b, c⟩ => ⟨⟨a, b⟩, c⟩⟩
      · rw [if_pos (.inr c2), if_pos c2, if_neg c1, subb_orL, subb_orL]
        exact ⟨fun ⟨a, c⟩ => ⟨c, a⟩, fun ⟨c, a⟩ => ⟨a, c⟩⟩
      · rw [if_neg (fun h => h.elim c1 c2), if_neg c2, if_neg c1, subb_orL, subb_orL]
        exact ⟨fun ⟨a, c⟩ => ⟨c, a⟩, fun ⟨c, a⟩ => ⟨a, c⟩⟩
    rw [hall]
    exact ⟨fun h => ⟨fun h => absurd h h7, fun h => absurd h h9, fun _ => h.1.1, h.1.2, h.2⟩, fun h => ⟨⟨h.2.2.1 h5, h.2.2.2.1⟩, h.2.2.2.2⟩⟩
  · rw [if_neg h5, suc_keepsL hL hf hjr (X := liv l f i) (fun to => rval0 (by rw [x_plain, hown])), if_neg h5, if_neg h6, if_neg h7]
    exact ⟨fun h => ⟨fun h => absurd h h7, fun h => absurd h h9, fun h => absurd h h5, h⟩, fun h => h.2.2.2⟩
theorem func_keepsL {p : api_Program} (hg : Good p) {l : List api_Section} {w : List W32} {bg : W32} (hL : LaysL p l w) {f : Nat} (hf : f < p.funcs.length) :
    (∀ r ∈ funcRL p bg f, 0 ≤ r.to_ → r.to_ < (base p.funcs p.funcs.length : Int) → Dsub (gi w r.to_) (rval r w)) ↔ subb (sec l f).liveEntry (liv l f 0) = true ∧ ∀ i, i < (List.getD p.funcs f []).length → nodeL p l bg f i = 0 := by
  have hb0 := base_lt (p := p) hf (k := 0) (by omega)
  have hb2 := base_lt (p := p) hf (k := 2 + 0) (by have := hg.len f hf; omega)
  have hn : (∀ r ∈ nodesRL p bg f 0 (List.getD p.funcs f []).length, 0 ≤ r.to_ → r.to_ < (base p.funcs p.funcs.length : Int) → Dsub (gi w r.to_) (rval r w)) ↔ ∀ i, i < (List.getD p.funcs f []).length → nodeL p l bg f i = 0 := by
    constructor
    · intro h i hi
      exact (node_keepsL hg hL hf hi).1 fun r hr => h r (nodesRL_mem.2 ⟨i, Nat.zero_le _, by omega, hr⟩)
    · intro h r hr
      obtain ⟨k, _, h2, h3⟩ := nodesRL_mem.1 hr
      exact (node_keepsL hg hL hf (by omega)).2 (h k (by omega)) r h3
  unfold funcRL
  rw [List.forall_mem_cons, hn, one_keepsL (by omega) (by omega) (x_plain w _) (hL.nod f 0 hf (hg.len f hf).1), hL.ent f hf]
theorem keepsL_iff {p : api_Program} (hg : Good p) {l : List api_Section} {w : List W32} {bg : W32} (hL : LaysL p l w) : DKeeps (funcsRL p bg 0 p.funcs.length) (base p.funcs p.funcs.length) w ↔ FineL p l bg := by
  unfold DKeeps FineL
  constructor
  · intro h f hf
    exact (func_keepsL hg hL hf).1 fun r hr => h r (funcsRL_mem.2 ⟨f, Nat.zero_le _, by omega, hr⟩)
  · intro h r hr
    obtain ⟨k, _, h2, h3⟩ := funcsRL_mem.1 hr
    exact (func_keepsL hg hL (by omega)).2 (h k (by omega)) r h3
theorem gi_app_l {w t : List W32} {j : Nat} (h : j < w.length) : gi (w ++ t) (j : Int) = gi w (j : Int) := by
  unfold gi
  rw [if_pos (by rw [List.length_append]; omega), if_pos (by omega), Int.toNat_natCast]
  simp [List.getD, List.getElem?_append_left h]
theorem gi_app_r {w t : List W32} {j : Nat} (h : j < t.length) : gi (w ++ t) ((w.length + j : Nat) : Int) = List.getD t j 0#32 := by
  unfold gi
  rw [if_pos (by rw [List.length_append]; omega), Int.toNat_natCast]
  unfold List.getD
  rw [List.getElem?_append_right (Nat.le_add_right _ _), Nat.add_sub_cancel_left]
theorem laysL_some (p : api_Program) (l : List api_Section) (hs : Shp p l) : ∀ m, m ≤ p.funcs.length → ∃ w : List W32, w.length = base p.funcs m ∧ ∀ f, f < m → gi w (base p.funcs f : Int) = (sec l f).liveEntry ∧ gi w ((base p.funcs f + 1 : Nat) : Int) = (sec l f).liveExit ∧ ∀ i, i < (List.getD p.funcs f []).length → gi w ((base p.funcs f + 2 + i : Nat) : Int) = liv l f i
  | 0, _ => ⟨[], rfl, fun f h => by omega⟩
  | m + 1, h => by
    obtain ⟨w, w1, w2⟩ := laysL_some p l hs m (by omega)
    have hh := (hs.2 m (by omega)).2
    refine ⟨w ++ ((sec l m).liveEntry :: (sec l m).liveExit :: (sec l m).live), by rw [List.length_append, List.length_cons, List.length_cons, base, w1, hh]; omega, fun f hf => ?_⟩
    by_cases e : f = m
    · subst e
      have g := fun j (hj : j < ((sec l f).liveEntry :: (sec l f).liveExit :: (sec l f).live).length) => gi_app_r (w := w) hj
      simp only [List.length_cons] at g
      rw [w1] at g
      refine ⟨?_, ?_, fun i hi => ?_⟩
      · have := g 0 (by omega)
        rw [Nat.add_zero] at this
        rw [this]; rfl
      · rw [g 1 (by omega)]; rfl
      · rw [show base p.funcs f + 2 + i = base p.funcs f + (i + 2) by omega, g (i + 2) (by omega)]; rfl
    · have hb := base_mono p.funcs (show f < m by omega)
      obtain ⟨h1, h2, h3⟩ := w2 f (by omega)
      exact ⟨by rw [gi_app_l (by omega)]; exact h1, by rw [gi_app_l (by omega)]; exact h2, fun i hi => by rw [gi_app_l (by omega)]; exact h3 i hi⟩
theorem laysL_ex (p : api_Program) (l : List api_Section) (hs : Shp p l) : ∃ w, LaysL p l w := by
  obtain ⟨w, w1, w2⟩ := laysL_some p l hs p.funcs.length (Nat.le_refl _)
  exact ⟨w, w1, fun f hf => (w2 f hf).1, fun f hf => (w2 f hf).2.1, fun f i hf hi => (w2 f hf).2.2 i hi⟩
theorem getD_gi {v : List W32} {j : Nat} (h : j < v.length) : List.getD v j 0#32 = gi v (j : Int) := by
  unfold gi
  rw [if_pos (by omega), Int.toNat_natCast]
theorem findL_l12 (p : api_Program) (hg : Good p) (bs : List Int) (hb : Bases p bs) (v : List W32) (hv : v.length = base p.funcs p.funcs.length) (x2 : List api_Section) (x4 : List W32) (x5 x6 x7 x8 : W32) (f : Nat) (hf : f < p.funcs.length) (x10 : FS) (x11 x12 : Int) : ∀ (m i : Nat) (h : List W32), i + m = (List.getD p.funcs f []).length → h.length = i → (∀ k, k < i → List.getD h k 0#32 = gi v ((base p.funcs f + 2 + k : Nat) : Int)) → ∃ h', live_Find_l12 bs v x2 x4 h x5 x6 x7 x8 (f : Int) x10 x11 x12 ((List.getD p.funcs f []).length : Int) (i : Int) = some h' ∧ h'.length = (List.getD p.funcs f []).length ∧ ∀ k, k < (List.getD p.funcs f []).length → List.getD h' k 0#32 = gi v ((base p.funcs f + 2 + k : Nat) : Int)
  | 0, i, h, hi, hl, hget => by
    rw [live_Find_l12, if_neg (by simp only [decide_eq_true_eq]; omega)]
    exact ⟨h, rfl, by omega, fun k hk => hget k (by omega)⟩
  | m + 1, i, h, hi, hl, hget => by
    have hle := hg.le f
    have hbl := base_lt (p := p) hf (k := 2 + i) (by omega)
    have hn := node_eq hg hb hf (i := (i : Int)) (by omega) (by omega)
    rw [Int.toNat_natCast] at hn
    rw [live_Find_l12, if_pos (decide_eq_true (by omega)), bind_some hn, if_pos (decide_eq_true (by omega)), if_pos (decide_eq_true (by omega)), if_pos (Nat.ble_eq_true_of_le (by simp only [List.length_singleton, reach]; omega)), inc i (by omega), Int.toNat_natCast]
    refine findL_l12 p hg bs hb v hv x2 x4 x5 x6 x7 x8 f hf x10 x11 x12 m (i + 1) _ (by omega) (by rw [List.length_append, List.length_singleton]; omega) fun k hk => ?_
    rw [getD_snoc]
    split
    · rename_i e
      subst e
      rw [hl]
      exact getD_gi (by omega)
    · exact hget k (by omega)
/-- A function's section of sets. -/
structure FoundL (p : api_Program) (v : List W32) (f : Nat) (s : api_Section) : Prop where
  ent : s.liveEntry = gi v (base p.funcs f : Int)
  exi : s.liveExit = gi v ((base p.funcs f + 1 : Nat) : Int)
  hl : s.live.length = (List.getD p.funcs f []).length
  nod : ∀ i, i < (List.getD p.funcs f []).length → List.getD s.live i 0#32 = gi v ((base p.funcs f + 2 + i : Nat) : Int)
  hd : s.held = List.replicate (List.getD p.funcs f []).length 0#32
  en : s.entry = 0#32
  ex : s.exit = 0#32
theorem findL_l8 (p : api_Program) (hg : Good p) (bs : List Int) (hb : Bases p bs) (v : List W32) (hv : v.length = base p.funcs p.funcs.length) : ∀ (m f : Nat) (t : List api_Section), f + m = p.funcs.length → t.length = f → (∀ g, g < f → FoundL p v g (sec t g)) → ∃ t', live_Find_l8 bs v t p.funcs (p.funcs.length : Int) (f : Int) = some t' ∧ t'.length = p.funcs.length ∧ ∀ g, g < p.funcs.length → FoundL p v g (sec t' g)
  | 0, f, t, h, hl, hget => by
    rw [live_Find_l8, if_neg (by simp only [decide_eq_true_eq]; omega)]
    exact ⟨t, rfl, by omega, fun g hg => hget g (by omega)⟩
  | m + 1, f, t, h, hl, hget => by
    have hn := hg.funcs
    have hle := hg.le f
    have hb0 := base_lt (p := p) (f := f) (by omega) (k := 0) (by omega)
    have hb1 := base_lt (p := p) (f := f) (by omega) (k := 1) (by omega)
    obtain ⟨hd, q1, q2, q3⟩ := findL_l12 p hg bs hb v hv t (List.replicate (List.getD p.funcs f []).length 0#32) 0#32 0#32 (List.getD v (base p.funcs f) 0#32) (List.getD v (base p.funcs f + 1) 0#32) f (by omega) p.funcs (p.funcs.length : Int) (f : Int) (List.getD p.funcs f []).length 0 [] (Nat.zero_add _) rfl (fun k hk => by omega)
    rw [show ((0 : Nat) : Int) = 0 from rfl] at q1
    rw [live_Find_l8, if_pos (decide_eq_true (by omega)), if_pos (decide_eq_true (by omega)), if_pos (decide_eq_true (by omega)), bind_some (entry_eq hb (by omega)), if_pos (decide_eq_true (by omega)), if_pos (decide_eq_true (by omega)), bind_some (exit_eq hg hb (by omega)), if_pos (decide_eq_true (by omega)), if_pos (decide_eq_true (by omega)), Int.toNat_natCast f, if_pos (decide_eq_true (by omega)), if_pos (decide_eq_true (by simp only [reach]; omega)), Int.toNat_natCast, Int.toNat_natCast, Int.toNat_natCast, bind_some q1, if_pos (Nat.ble_eq_true_of_le (by simp only [List.length_singleton, reach]; omega)), inc f (by omega)]
    refine findL_l8 p hg bs hb v hv m (f + 1) _ (by omega) (by rw [List.length_append, List.length_singleton]; omega) fun g hgf => ?_
    unfold sec
    rw [getD_snoc]
    split
    · rename_i e
      subst e
      rw [hl]
      exact ⟨getD_gi (by omega), getD_gi (by omega), q2, q3, rfl, rfl, rfl⟩
    · exact hget g (by omega)
theorem found_laysL {p : api_Program} {v : List W32} {t : List api_Section} (hv : v.length = base p.funcs p.funcs.length) (hl : t.length = p.funcs.length) (h : ∀ g, g < p.funcs.length → FoundL p v g (sec t g)) : LaysL p t v ∧ Shp p t :=
  ⟨⟨hv, fun f hf => (h f hf).ent.symm, fun f hf => (h f hf).exi.symm, fun f i hf hi => ((h f hf).nod i hi).symm⟩, hl, fun f hf => ⟨by rw [(h f hf).hd, List.length_replicate], (h f hf).hl⟩⟩
theorem findL_eq (p : api_Program) (hg : Good p) {bg : W32} (h : kill_Begins p = some (bg, 0)) : ∃ v t, live_Find p = some (0, t) ∧ Lfp (funcsRL p bg 0 p.funcs.length) (List.replicate (base p.funcs p.funcs.length) 0#32) v ∧ v.length = base p.funcs p.funcs.length ∧ t.length = p.funcs.length ∧ ∀ g, g < p.funcs.length → FoundL p v g (sec t g) := by
  have hn := hg.funcs
  have hbl := base_le hg p.funcs.length
  have hrl := funcsRL_len hg bg p.funcs.length 0
  obtain ⟨bs, b1, b2⟩ := lay_eq p hg
  obtain ⟨v, v1, v2⟩ := least_eq (base p.funcs p.funcs.length : Int) (funcsRL p bg 0 p.funcs.length) (by omega)
  rw [if_pos (by omega), Int.toNat_natCast] at v2
  have hv : v.length = base p.funcs p.funcs.length := by rw [v2.len, List.length_replicate]
  obtain ⟨t, t1, t2, t3⟩ := findL_l8 p hg bs b2 v hv p.funcs.length 0 [] (Nat.zero_add _) rfl (fun g h => by omega)
  rw [show ((0 : Nat) : Int) = 0 from rfl] at t1
  unfold live_Find
  rw [bind_some (rulesL_eq p hg h), if_neg (show ¬ ((0 : Int) != 0) = true by decide), bind_some b1, bind_some v1, bind_some t1]
  exact ⟨v, t, rfl, v2, hv, t2, t3⟩
theorem rulesL_bad (p : api_Program) {a b e : Int} (hk : prog_Check p = some (a, b, e)) (he : e ≠ 0) : live_Rules p = some (e, []) := by
  unfold live_Rules
  rw [bind_some (begins_bad p hk he), if_pos (neT he)]
theorem findL_bad (p : api_Program) {a b e : Int} (hk : prog_Check p = some (a, b, e)) (he : e ≠ 0) : live_Find p = some (e, []) := by
  unfold live_Find
  rw [bind_some (rulesL_bad p hk he), if_pos (neT he)]
/-- What is found is within what keeps the rules. -/
theorem least_of {p : api_Program} {bg : W32} {v w : List W32} (hv : Lfp (funcsRL p bg 0 p.funcs.length) (List.replicate (base p.funcs p.funcs.length) 0#32) v) (hw : DKeeps (funcsRL p bg 0 p.funcs.length) (base p.funcs p.funcs.length) w) (j : Int) : sub (gi v j) (gi w j) :=
  hv.best w (by rw [List.length_replicate]; exact hw) (fun j => by
    intro i hi
    have : gi (List.replicate (base p.funcs p.funcs.length) 0#32) j = 0#32 := by
      unfold gi
      split
      · simp only [List.getD, List.getElem?_replicate]
        split <;> rfl
      · rfl
    rw [this] at hi
    simp at hi) j
def exL : api_Program := ⟨0, 0, 1, [[⟨5, 1, 1, 0⟩, ⟨6, 0, 2, 0⟩, ⟨9, 0, 0, 0⟩], [⟨9, 0, 0, 0⟩]]⟩
def exT : List api_Section := [⟨0#32, 0#32, [0#32, 0#32, 0#32], 0#32, 0#32, [0#32, 1#32, 0#32]⟩, ⟨0#32, 0#32, [0#32], 2#32, 2#32, [2#32]⟩]
theorem exCheckL : prog_Check exL = some (0, 0, 0) := prog_Check_le 40 _ _ (by kernel_rfl)
theorem exGoodL : Good exL := by
  obtain ⟨r, r1, r2, _⟩ := check_eqP exL
  rw [exCheckL] at r1
  cases r1
  exact (r2 rfl).2
theorem exNot : ¬ Spawns exL.funcs 1 := by
  rintro ⟨g, h1, j, h2, h3⟩
  have hp : ∀ x, Path exL.funcs 1 x → x = 1 := fun x hx => path_closed (S := fun y => y = 1) (fun a ha b e => by
    subst ha
    obtain ⟨i, i1, i2, _⟩ := e
    exfalso
    have : i = 0 := by
      have : i < 1 := i1
      omega
    subst this
    exact absurd i2 (by decide)) hx rfl
  have := hp g h1
  subst this
  have : j = 0 := by
    have : j < 1 := h2
    omega
  subst this
  exact absurd h3 (by decide)
theorem exFineL {bg : W32} (hbg : hasb bg 1 = false) : FineL exL exT bg := by
  intro f hf
  have hf2 : f < 2 := hf
  match f, hf2 with
  | 0, _ =>
    refine ⟨by decide, fun i hi => ?_⟩
    have hi3 : i < 3 := hi
    rw [nodeL_iff]
    match i, hi3 with
    | 0, _ =>
      refine ⟨by decide, by decide, by decide, ?_⟩
      unfold onL
      rw [show hasb bg (nde exL 0 0).arg = false from hbg]
      decide
    | 1, _ =>
      refine ⟨by decide, by decide, by decide, ?_⟩
      unfold onL
      rw [lbh_bg (show (nde exL 0 1).kind ≠ 5 by decide) _ _ _ _ false]
      decide
    | 2, _ => exact ⟨by decide, by decide, by decide, rfl⟩
  | 1, _ =>
    refine ⟨by decide, fun i hi => ?_⟩
    have hi1 : i < 1 := hi
    rw [nodeL_iff]
    match i, hi1 with
    | 0, _ => exact ⟨by decide, by decide, by decide, rfl⟩
theorem sub_zero {a : W32} (h : sub a 0#32) : a = 0#32 := by
  apply BitVec.eq_of_getLsbD_eq
  intro i hi
  cases hb : a.getLsbD i with
  | false => simp
  | true => have := h i hb; simp at this
theorem awake23 : alibilaw23_awake = some true := by
  obtain ⟨bg, u1, u2⟩ := begins_eq exL exGoodL exCheckL
  have hbg : hasb bg 1 = false := by
    cases hb : hasb bg 1 with
    | false => rfl
    | true =>
      have h1 : bg.getLsbD 1 = true := hb
      exact absurd ((u2 1).1 h1).2 exNot
  obtain ⟨v, t, t1, t2, t3, t4, t5⟩ := findL_eq exL exGoodL u1
  obtain ⟨hL, hS⟩ := found_laysL t3 t4 t5
  have hk : DKeeps (funcsRL exL bg 0 exL.funcs.length) (base exL.funcs exL.funcs.length) v := by
    have := t2.keeps
    rw [List.length_replicate] at this
    exact this
  have hF := (keepsL_iff exGoodL hL).1 hk
  have hSx : Shp exL exT := by
    refine ⟨rfl, fun f hf => ?_⟩
    have hf2 : f < 2 := hf
    match f, hf2 with
    | 0, _ => exact ⟨rfl, rfl⟩
    | 1, _ => exact ⟨rfl, rfl⟩
  obtain ⟨w, w1⟩ := laysL_ex exL exT hSx
  have hb := least_of t2 ((keepsL_iff exGoodL w1).2 (exFineL hbg))
  have z0 : 0 < exL.funcs.length := by decide
  have z1 : 1 < exL.funcs.length := by decide
  have nb : ∀ f i, f < exL.funcs.length → i < (List.getD exL.funcs f []).length → sub (liv t f i) (liv exT f i) := fun f i hf hi => by
    have := hb ((base exL.funcs f + 2 + i : Nat) : Int)
    rw [w1.nod f i hf hi, hL.nod f i hf hi] at this
    exact this
  obtain ⟨a1, a2, a3, a4⟩ := nodeL_iff.1 ((hF 0 z0).2 0 (by decide))
  have h0 : liv t 0 0 = 0#32 := sub_zero (nb 0 0 z0 (by decide))
  have h2 : liv t 0 2 = 0#32 := sub_zero (nb 0 2 z0 (by decide))
  have h1 : liv t 0 1 = 1#32 := by
    refine sub.antisymm (nb 0 1 z0 (by decide)) ?_
    have c1 := List.all_eq_true.1 a4 1 (by decide)
    have c2 : subb (lbh (nde exL 0 0) (liv t 0 0) (xit t (nde exL 0 0)) exL.slots (hasb bg (nde exL 0 0).arg)) (liv t 0 1) = true := c1
    rw [h0, show hasb bg (nde exL 0 0).arg = false from hbg, show xit t (nde exL 0 0) = 0#32 from rfl] at c2
    exact subb_iff.1 (show subb 1#32 (liv t 0 1) = true from c2)
  have h3 : (sec t 1).liveEntry = 2#32 := by
    have c1 := a3 rfl
    have c2 := hb (base exL.funcs 1 : Int)
    rw [w1.ent 1 z1, hL.ent 1 z1] at c2
    refine sub.antisymm c2 ?_
    exact subb_iff.1 ((subb_one (id := 1) (by decide) (by decide) _).2 c1)
  have hll : (sec t 0).live.length = 3 := (t5 0 z0).hl
  have htl : t.length = 2 := t4
  have hl0 : ((List.getD t 0 d_api_Section).live.length : Int) = 3 := by rw [show (List.getD t 0 d_api_Section).live.length = 3 from hll]; rfl
  unfold alibilaw23_awake
  rw [bind_some (show live_Find (api_Program.mk 0 0 1 ([[api_Node.mk 5 1 1 0, api_Node.mk 6 0 2 0, api_Node.mk 9 0 0 0], [api_Node.mk 9 0 0 0]])) = some (0, t) from t1)]
  simp only []
  rw [if_pos (by decide), if_pos (eqT (by omega)), if_pos (decide_eq_true (by omega)), if_pos (eqT hl0), if_pos (decide_eq_true (by omega)), if_pos (show (List.getD (List.getD t 0 d_api_Section).live 0 0#32 == 0#32) = true by rw [show List.getD (List.getD t 0 d_api_Section).live 0 0#32 = 0#32 from h0]; decide), if_pos (decide_eq_true (by omega)), if_pos (show (List.getD (List.getD t 0 d_api_Section).live 1 0#32 == 1#32) = true by rw [show List.getD (List.getD t 0 d_api_Section).live 1 0#32 = 1#32 from h1]; decide), if_pos (decide_eq_true (by omega)), if_pos (show (List.getD (List.getD t 0 d_api_Section).live 2 0#32 == 0#32) = true by rw [show List.getD (List.getD t 0 d_api_Section).live 2 0#32 = 0#32 from h2]; decide), if_pos (decide_eq_true (by omega)), show (List.getD t 1 d_api_Section).liveEntry = 2#32 from h3]
  rfl
theorem rep_get (n i : Nat) (x : W32) (h : i < n) : List.getD (List.replicate n x) i 0#32 = x := by simp [List.getD, List.getElem?_replicate, h]
theorem getD_el {α : Type} (l : List α) (i : Nat) (d : α) (h : i < l.length) : List.getD l i d = l[i] := by simp [List.getD, h]
def secLack (s : api_Section) : Nat := Dpop s.liveEntry + Dpop s.liveExit + Dpops s.live
def lackS (l : List api_Section) : Nat := (l.map secLack).sum
theorem lackS_set : ∀ (l : List api_Section) (i : Nat) (s : api_Section), i < l.length → lackS (l.set i s) + secLack (List.getD l i d_api_Section) = lackS l + secLack s
  | a :: l, 0, s, h => by simp [lackS]; omega
  | a :: l, i + 1, s, h => by
    have := lackS_set l i s (by simpa using h)
    simp [lackS] at this ⊢
    omega
theorem sec_set (l : List api_Section) (i : Nat) (s : api_Section) (hi : i < l.length) (j : Nat) : sec (l.set i s) j = if j = i then s else sec l j := by
  unfold sec
  by_cases h : j = i
  · subst h; simp [List.getD, hi]
  · have : i ≠ j := fun e => h e.symm
    rw [if_neg h]
    simp [List.getD, List.getElem?_set, this]
theorem getW_set (h : List W32) (i : Nat) (x : W32) (hi : i < h.length) (j : Nat) : List.getD (h.set i x) j 0#32 = if j = i then x else List.getD h j 0#32 := by
  by_cases e : j = i
  · subst e; simp [List.getD, hi]
  · have : i ≠ j := fun e' => e e'.symm
    rw [if_neg e]
    simp [List.getD, List.getElem?_set, this]
theorem DpopsW_set (h : List W32) (i : Nat) (x : W32) (hi : i < h.length) : Dpops (h.set i x) + Dpop (List.getD h i 0#32) = Dpops h + Dpop x := by
  have := Dpops_set h i x hi
  rw [show List.getD h i 0#32 = h[i] by simp [List.getD, hi]]
  exact this
/-- Sections within what is found. -/
structure MidL (p : api_Program) (t l : List api_Section) : Prop where
  shp : Shp p l
  e : ∀ f, f < p.funcs.length → sub (sec l f).liveEntry (sec t f).liveEntry
  x : ∀ f, f < p.funcs.length → sub (sec l f).liveExit (sec t f).liveExit
  h : ∀ f i, f < p.funcs.length → i < (List.getD p.funcs f []).length → sub (liv l f i) (liv t f i)
theorem midL_set {p : api_Program} {t l : List api_Section} (hm : MidL p t l) {f : Nat} (hf : f < p.funcs.length) {s : api_Section} (h1 : s.held.length = (sec l f).held.length) (h2 : s.live.length = (sec l f).live.length) (he : sub s.liveEntry (sec t f).liveEntry) (hx : sub s.liveExit (sec t f).liveExit) (hh : ∀ i, i < (List.getD p.funcs f []).length → sub (List.getD s.live i 0#32) (liv t f i)) : MidL p t (l.set f s) := by
  have hl := hm.shp.1
  have hs := sec_set l f s (by omega)
  refine ⟨⟨by rw [List.length_set]; exact hl, fun g hg => ?_⟩, fun g hg => ?_, fun g hg => ?_, fun g i hg hi => ?_⟩
  · rw [hs]
    split
    · rename_i e; subst e; rw [h1, h2]; exact hm.shp.2 g hg
    · exact hm.shp.2 g hg
  · rw [hs]
    split
    · rename_i e; subst e; exact he
    · exact hm.e g hg
  · rw [hs]
    split
    · rename_i e; subst e; exact hx
    · exact hm.x g hg
  · unfold liv
    rw [hs]
    split
    · rename_i e; subst e; exact hh i hi
    · exact hm.h g i hg hi
/-- A section with another entry, exit, or set at a node. -/
abbrev putE (l : List api_Section) (f : Nat) (x : W32) : List api_Section := l.set f ⟨(sec l f).entry, (sec l f).exit, (sec l f).held, x, (sec l f).liveExit, (sec l f).live⟩
abbrev putX (l : List api_Section) (f : Nat) (x : W32) : List api_Section := l.set f ⟨(sec l f).entry, (sec l f).exit, (sec l f).held, (sec l f).liveEntry, x, (sec l f).live⟩
abbrev putL (l : List api_Section) (f i : Nat) (x : W32) : List api_Section := l.set f ⟨(sec l f).entry, (sec l f).exit, (sec l f).held, (sec l f).liveEntry, (sec l f).liveExit, List.set (sec l f).live i x⟩
theorem set_sec (l : List api_Section) (f : Nat) (hf : f < l.length) : l.set f (sec l f) = l := by
  unfold sec
  rw [show List.getD l f d_api_Section = l[f] by simp [List.getD, hf]]
  exact List.set_getElem_self _
theorem put_e {p : api_Program} {t l : List api_Section} (hm : MidL p t l) {f : Nat} (hf : f < p.funcs.length) {x : W32} (h1 : sub x (sec t f).liveEntry) (h2 : sub (sec l f).liveEntry x) : MidL p t (putE l f x) ∧ lackS (putE l f x) ≤ lackS l ∧ (x ≠ (sec l f).liveEntry → lackS (putE l f x) < lackS l) ∧ (x = (sec l f).liveEntry → putE l f x = l) := by
  have hl := hm.shp.1
  have h3 := lackS_set l f ⟨(sec l f).entry, (sec l f).exit, (sec l f).held, x, (sec l f).liveExit, (sec l f).live⟩ (by omega)
  have h6 : Dpop x ≤ Dpop (sec l f).liveEntry := Dpop_le h2
  unfold secLack at h3
  simp only [] at h3
  refine ⟨midL_set hm hf rfl rfl h1 (hm.x f hf) fun i hi => hm.h f i hf hi, ?_, fun hne => ?_, fun e => ?_⟩
  · unfold putE
    unfold sec at h3 h6 ⊢
    omega
  · have h4 : Dpop x < Dpop (sec l f).liveEntry := Dpop_lt h2 hne
    unfold putE
    unfold sec at h3 h4 ⊢
    omega
  · unfold putE
    rw [e]
    exact set_sec l f (by omega)
theorem put_x {p : api_Program} {t l : List api_Section} (hm : MidL p t l) {f : Nat} (hf : f < p.funcs.length) {x : W32} (h1 : sub x (sec t f).liveExit) (h2 : sub (sec l f).liveExit x) : MidL p t (putX l f x) ∧ lackS (putX l f x) ≤ lackS l ∧ (x ≠ (sec l f).liveExit → lackS (putX l f x) < lackS l) ∧ (x = (sec l f).liveExit → putX l f x = l) := by
  have hl := hm.shp.1
  have h3 := lackS_set l f ⟨(sec l f).entry, (sec l f).exit, (sec l f).held, (sec l f).liveEntry, x, (sec l f).live⟩ (by omega)
  have h6 : Dpop x ≤ Dpop (sec l f).liveExit := Dpop_le h2
  unfold secLack at h3
  simp only [] at h3
  refine ⟨midL_set hm hf rfl rfl (hm.e f hf) h1 fun i hi => hm.h f i hf hi, ?_, fun hne => ?_, fun e => ?_⟩
  · unfold putX
    unfold sec at h3 h6 ⊢
    omega
  · have h4 : Dpop x < Dpop (sec l f).liveExit := Dpop_lt h2 hne
    unfold putX
    unfold sec at h3 h4 ⊢
    omega
  · unfold putX
    rw [e]
    exact set_sec l f (by omega)
theorem put_l {p : api_Program} {t l : List api_Section} (hm : MidL p t l) {f i : Nat} (hf : f < p.funcs.length) (hi : i < (List.getD p.funcs f []).length) {x : W32} (h1 : sub x (liv t f i)) (h2 : sub (liv l f i) x) : MidL p t (putL l f i x) ∧ lackS (putL l f i x) ≤ lackS l ∧ (x ≠ liv l f i → lackS (putL l f i x) < lackS l) ∧ (x = liv l f i → putL l f i x = l) := by
  have hl := hm.shp.1
  have hh := (hm.shp.2 f hf).2
  have h3 := lackS_set l f ⟨(sec l f).entry, (sec l f).exit, (sec l f).held, (sec l f).liveEntry, (sec l f).liveExit, List.set (sec l f).live i x⟩ (by omega)
  have h5 := DpopsW_set (sec l f).live i x (by omega)
  have h6 : Dpop x ≤ Dpop (liv l f i) := Dpop_le h2
  unfold secLack at h3
  simp only [] at h3
  refine ⟨midL_set hm hf rfl (by simp) (hm.e f hf) (hm.x f hf) fun j hj => ?_, ?_, fun hne => ?_, fun e => ?_⟩
  · rw [getW_set _ _ _ (by omega)]
    split
    · rename_i e; subst e; exact h1
    · exact hm.h f j hf hj
  · unfold putL
    unfold liv sec at h6
    unfold sec at h3 h5 ⊢
    omega
  · have h4 : Dpop x < Dpop (liv l f i) := Dpop_lt h2 hne
    unfold putL
    unfold liv sec at h4
    unfold sec at h3 h5 ⊢
    omega
  · unfold putL
    rw [e]
    have hfl : f < l.length := by omega
    have g1 : (sec l f).live.set i (liv l f i) = (sec l f).live := by
      unfold liv
      rw [show List.getD (sec l f).live i 0#32 = (sec l f).live[i]'(by omega) from getD_el _ _ _ _]
      exact List.set_getElem_self _
    rw [g1]
    exact set_sec l f hfl
theorem faultL_cases {p : api_Program} {l : List api_Section} {bg : W32} (h : (checkL p l bg).what ≠ 0) : ∃ f : Nat, f < l.length ∧ ((checkL p l bg = ⟨f, -1, 6⟩ ∧ ¬ subb (sec l f).liveEntry (liv l f 0) = true) ∨ ∃ i : Nat, i < (List.getD p.funcs f []).length ∧ ∃ w : Int, checkL p l bg = ⟨f, i, w⟩ ∧ w ≠ 0 ∧ nodeL p l bg f i = w) := by
  cases hq : findO (funcLO p l bg) 0 l.length with
  | none =>
    unfold checkL at h
    rw [hq] at h
    exact absurd rfl h
  | some y =>
    obtain ⟨f, k, w⟩ := y
    have hc : checkL p l bg = ⟨f, k, w⟩ := by
      unfold checkL
      rw [hq]
    obtain ⟨_, h1, h2⟩ := findO_some hq
    have hfl : f < l.length := by
      have : f < 0 + l.length := h1
      omega
    refine ⟨f, hfl, ?_⟩
    rw [hc]
    unfold funcLO at h2
    by_cases c : subb (sec l f).liveEntry (liv l f 0) = true
    · rw [if_neg (by rw [c]; decide)] at h2
      cases hq2 : findO (nodeLO p l bg f) 0 (List.getD p.funcs f []).length with
      | none =>
        rw [hq2] at h2
        cases h2
      | some z =>
        obtain ⟨i, w2⟩ := z
        rw [hq2] at h2
        have h3 := Option.some.inj h2
        obtain ⟨_, g1, g2⟩ := findO_some hq2
        have hi : i < (List.getD p.funcs f []).length := by
          have : i < 0 + (List.getD p.funcs f []).length := g1
          omega
        cases h3
        refine .inr ⟨i, hi, w2, rfl, ?_⟩
        unfold nodeLO at g2
        split at g2
        · cases g2
        · rename_i hn
          have g3 := Option.some.inj g2
          simp only [] at g3
          rw [g3] at hn
          exact ⟨hn, g3⟩
    · rw [if_pos (by simpa using c)] at h2
      have h3 := Option.some.inj h2
      cases h3
      exact .inl ⟨rfl, c⟩
theorem nat_add_bit {x k : Nat} (hx : x < 2 ^ 32) (hk : k < 32) (h : x.testBit k = false) : x + 2 ^ k = x ||| 2 ^ k := by
  have hp : 2 ^ k < 2 ^ 32 := Nat.pow_lt_pow_right (by decide) hk
  have e : BitVec.ofNat 64 x &&& BitVec.ofNat 64 (2 ^ k) = 0#64 := by
    apply BitVec.eq_of_getLsbD_eq
    intro i hi
    rw [BitVec.getLsbD_and, BitVec.getLsbD_ofNat, BitVec.getLsbD_ofNat, Nat.testBit_two_pow]
    by_cases hik : k = i
    · subst hik; simp [h]
    · simp [hik]
  have h1 := BitVec.add_eq_or_of_and_eq_zero _ _ e
  have h2 := congrArg BitVec.toNat h1
  have h64 : (2 : Nat) ^ 32 + 2 ^ 32 ≤ 2 ^ 64 := by decide
  have e1 : x % 2 ^ 64 = x := Nat.mod_eq_of_lt (by omega)
  have e2 : 2 ^ k % 2 ^ 64 = 2 ^ k := Nat.mod_eq_of_lt (by omega)
  have e3 : (x + 2 ^ k) % 2 ^ 64 = x + 2 ^ k := Nat.mod_eq_of_lt (by omega)
  rw [BitVec.toNat_add, BitVec.toNat_or, BitVec.toNat_ofNat, BitVec.toNat_ofNat, e1, e2, e3] at h2
  exact h2
theorem maskN_l3 (l : List Int) (hl : l.length ≤ 65536) : ∀ (m i : Nat) (x : Nat), i + m = l.length → (∀ y ∈ l.drop i, 0 ≤ y ∧ y < 32) → (l.drop i).Nodup → x < 2 ^ 32 → (∀ b : Nat, (b : Int) ∈ l.drop i → x.testBit b = false) → ∃ x', alibiref03_Mask_l3 l (BitVec.ofNat 64 x) (i : Int) = some (BitVec.ofNat 64 x') ∧ x' < 2 ^ 32 ∧ ∀ b, x'.testBit b = true ↔ x.testBit b = true ∨ (b : Int) ∈ l.drop i
  | 0, i, x, h, hr, hn, hx, hb => by
    rw [alibiref03_Mask_l3, if_neg (by simp only [decide_eq_true_eq]; omega), List.drop_eq_nil_of_le (by omega)]
    exact ⟨x, rfl, hx, fun b => by simp⟩
  | m + 1, i, x, h, hr, hn, hx, hb => by
    have hlt : i < l.length := by omega
    have hd : l.drop i = l[i] :: l.drop (i + 1) := List.drop_eq_getElem_cons hlt
    have hg : List.getD l i 0 = l[i] := by simp [List.getD, hlt]
    rw [hd] at hr hn hb ⊢
    have r1 := hr _ List.mem_cons_self
    obtain ⟨k, hk⟩ : ∃ k : Nat, l[i] = (k : Int) := ⟨l[i].toNat, by omega⟩
    rw [hk] at r1 hg hn hb ⊢
    have h7 := mask_l7 l (BitVec.ofNat 64 x) i k hlt hg (by omega) k 0 (by omega)
    rw [show ((0 : Nat) : Int) = 0 from rfl] at h7
    rw [alibiref03_Mask_l3, if_pos (decide_eq_true (by omega)), bind_some (show alibiref03_Mask_l7 l (BitVec.ofNat 64 x) (i : Int) (1#64) 0 = _ from h7), inc i (by omega), ← BitVec.ofNat_add]
    have hxk := hb k List.mem_cons_self
    have hor := nat_add_bit hx (by omega) hxk
    have hp : 2 ^ k < 2 ^ 32 := Nat.pow_lt_pow_right (by decide) (by omega)
    obtain ⟨n1, n2⟩ := List.nodup_cons.1 hn
    obtain ⟨x', q1, q2, q3⟩ := maskN_l3 l hl m (i + 1) (x + 2 ^ k) (by omega) (fun y hy => hr y (List.mem_cons_of_mem _ hy)) n2 (by rw [hor]; exact Nat.or_lt_two_pow hx hp) (fun b hbm => by
      rw [hor, Nat.testBit_or, hb b (List.mem_cons_of_mem _ hbm), Nat.testBit_two_pow]
      have : k ≠ b := fun e => n1 (by rw [e]; exact hbm)
      simp [this])
    refine ⟨x', q1, q2, fun b => ?_⟩
    rw [q3, hor, Nat.testBit_or, Bool.or_eq_true, Nat.testBit_two_pow, decide_eq_true_eq, List.mem_cons]
    constructor
    · rintro ((h1 | h1) | h1)
      · exact .inl h1
      · exact .inr (.inl (by omega))
      · exact .inr (.inr h1)
    · rintro (h1 | h1 | h1)
      · exact .inl (.inl h1)
      · exact .inl (.inr (by omega))
      · exact .inr h1
theorem maskN_eq (l : List Int) (hl : l.length ≤ 65536) (hr : ∀ y ∈ l, 0 ≤ y ∧ y < 32) (hn : l.Nodup) : ∃ x, alibiref03_Mask l = some x ∧ ∀ b, x.getLsbD b = true ↔ (b : Int) ∈ l := by
  obtain ⟨x, q1, q2, q3⟩ := maskN_l3 l hl l.length 0 0 (by omega) (by simpa using hr) (by simpa using hn) (by decide) (fun b _ => by simp)
  unfold alibiref03_Mask
  rw [bind_some (show alibiref03_Mask_l3 l (0#64) 0 = _ from q1)]
  refine ⟨_, rfl, fun b => ?_⟩
  have e : (BitVec.setWidth 32 (BitVec.ofNat 64 x)).toNat = x := by
    rw [BitVec.toNat_setWidth, BitVec.toNat_ofNat]
    omega
  show (BitVec.setWidth 32 (BitVec.ofNat 64 x)).toNat.testBit b = true ↔ _
  rw [e, q3]
  simp
theorem reflist_l3 (m : W32) : ∀ (k i : Nat) (t : List Int), i + k = 32 → t.length ≤ i → ∃ s, alibiref03_List_l3 t m (i : Int) = some (t ++ s) ∧ Rises i s ∧ ∀ b : Nat, (b : Int) ∈ s ↔ i ≤ b ∧ b < 32 ∧ m.getLsbD b = true
  | 0, i, t, h, ht => by
    rw [alibiref03_List_l3, if_neg (by simp only [decide_eq_true_eq]; omega)]
    exact ⟨[], by simp, trivial, fun b => by simp; omega⟩
  | k + 1, i, t, h, ht => by
    rw [alibiref03_List_l3, if_pos (decide_eq_true (by omega)), bind_some (refhas_eq m (i : Int)), if_pos (show 0 ≤ (i : Int) ∧ (i : Int) < 32 by omega), Int.toNat_natCast, inc i (by omega)]
    by_cases c : m.getLsbD i = true
    · rw [if_pos c, if_pos (Nat.ble_eq_true_of_le (by simp only [List.length_singleton, reach]; omega))]
      obtain ⟨s, q1, q2, q3⟩ := reflist_l3 m k (i + 1) (t ++ [(i : Int)]) (by omega) (by simp; omega)
      refine ⟨(i : Int) :: s, by rw [q1]; simp, ⟨Int.le_refl _, by omega, by rw [Int.toNat_natCast]; exact q2⟩, fun b => ?_⟩
      rw [List.mem_cons, q3]
      constructor
      · rintro (h1 | ⟨h1, h2⟩)
        · have : b = i := by omega
          subst this
          exact ⟨Nat.le_refl _, by omega, c⟩
        · exact ⟨by omega, h2⟩
      · rintro ⟨h1, h2⟩
        rcases Nat.eq_or_lt_of_le h1 with rfl | h4
        · exact .inl rfl
        · exact .inr ⟨h4, h2⟩
    · rw [if_neg c]
      obtain ⟨s, q1, q2, q3⟩ := reflist_l3 m k (i + 1) t (by omega) (by omega)
      refine ⟨s, q1, q2.mono (by omega), fun b => ?_⟩
      rw [q3]
      constructor
      · rintro ⟨h1, h2⟩; exact ⟨by omega, h2⟩
      · rintro ⟨h1, h2, h3⟩
        rcases Nat.eq_or_lt_of_le h1 with rfl | h4
        · exact absurd h3 c
        · exact ⟨h4, h2, h3⟩
theorem reflist_eq (m : W32) : ∃ s, alibiref03_List m = some s ∧ Rises 0 s ∧ ∀ b : Nat, (b : Int) ∈ s ↔ b < 32 ∧ m.getLsbD b = true := by
  obtain ⟨s, s1, s2, s3⟩ := reflist_l3 m 32 0 [] rfl (Nat.le_refl _)
  rw [show ((0 : Nat) : Int) = 0 from rfl, List.nil_append] at s1
  unfold alibiref03_List
  rw [bind_some s1]
  exact ⟨s, rfl, s2, fun b => by rw [s3]; exact ⟨fun h => h.2, fun h => ⟨Nat.zero_le _, h⟩⟩⟩
theorem Rises.nodup : ∀ {n : Nat} {l : List Int}, Rises n l → l.Nodup
  | _, [], _ => List.nodup_nil
  | n, x :: l, ⟨h1, h2, h3⟩ => List.nodup_cons.2 ⟨fun hx => by have := Rises.nat h3 x hx; omega, Rises.nodup h3⟩
theorem add_l3 (l : List Int) (hl : l.length ≤ 65536) (x1 : W32) (id : Int) : ∀ (m i : Nat), i + m = l.length → alibiref23_add_l3 l x1 id (i : Int) = some (if id ∈ l.drop i then .x0 else .x1)
  | 0, i, h => by
    rw [alibiref23_add_l3, if_neg (by simp only [decide_eq_true_eq]; omega), List.drop_eq_nil_of_le (by omega)]
    rfl
  | m + 1, i, h => by
    have hlt : i < l.length := by omega
    have hd : l.drop i = l[i] :: l.drop (i + 1) := List.drop_eq_getElem_cons hlt
    have hg : List.getD l i 0 = l[i] := by simp [List.getD, hlt]
    rw [alibiref23_add_l3, if_pos (decide_eq_true (by omega)), if_pos (decide_eq_true (by omega)), if_pos (decide_eq_true (by omega)), Int.toNat_natCast, hg, hd]
    by_cases c : l[i] = id
    · rw [if_pos (eqT c), if_pos (by rw [← c]; exact List.mem_cons_self)]
    · rw [if_neg (eqF c), inc i (by omega), add_l3 l hl x1 id m (i + 1) (by omega)]
      have : id ∈ l[i] :: l.drop (i + 1) ↔ id ∈ l.drop (i + 1) := by
        rw [List.mem_cons]
        exact ⟨fun h => h.resolve_left fun e => c e.symm, .inr⟩
      by_cases c2 : id ∈ l.drop (i + 1)
      · rw [if_pos c2, if_pos (this.2 c2)]
      · rw [if_neg c2, if_neg fun h => c2 (this.1 h)]
theorem add23_eq (m : W32) (k : Nat) (hk : k < 32) : alibiref23_add m (k : Int) = some (m ||| one (k : Int)) := by
  obtain ⟨s, s1, s2, s3⟩ := reflist_eq m
  have hsl := s2.length_le (by omega)
  have h3 := add_l3 s (by omega) m (k : Int) s.length 0 (Nat.zero_add _)
  rw [show ((0 : Nat) : Int) = 0 from rfl, List.drop_zero] at h3
  unfold alibiref23_add
  rw [bind_some s1, bind_some h3]
  by_cases c : (k : Int) ∈ s
  · rw [if_pos c]
    have : m ||| one (k : Int) = m := by
      apply BitVec.eq_of_getLsbD_eq
      intro b hb
      rw [Bool.eq_iff_iff, BitVec.getLsbD_or, Bool.or_eq_true, one_bit]
      constructor
      · rintro (h | ⟨h, _⟩)
        · exact h
        · have : k = b := by omega
          subst this
          exact ((s3 k).1 c).2
      · exact .inl
    rw [this]
  · rw [if_neg c]
    obtain ⟨w, w1, w2⟩ := maskN_eq (s ++ [(k : Int)]) (by simp; omega) (fun y hy => by
      rcases List.mem_append.1 hy with h | h
      · have := s2.nat y h; omega
      · rw [List.mem_singleton.1 h]; omega) (List.nodup_append.2 ⟨s2.nodup, by simp, fun a ha b hb e => by
        rw [List.mem_singleton.1 hb] at e
        exact c (e ▸ ha)⟩)
    show (if _ then _ else none) = _
    rw [if_pos (Nat.ble_eq_true_of_le (by simp only [List.length_singleton, reach]; omega)), bind_some w1]
    congr 1
    apply BitVec.eq_of_getLsbD_eq
    intro b hb
    rw [Bool.eq_iff_iff, w2, BitVec.getLsbD_or, Bool.or_eq_true, one_bit, List.mem_append, List.mem_singleton, s3]
    constructor
    · rintro (h | h)
      · exact .inl h.2
      · exact .inr ⟨by omega, hb⟩
    · rintro (h | h)
      · exact .inl ⟨hb, h⟩
      · exact .inr (by omega)
theorem len_set {l : List api_Section} {f : Nat} {s : api_Section} (hf : f < l.length) (h1 : s.held.length = (sec l f).held.length) (h2 : s.live.length = (sec l f).live.length) (g : Nat) : (List.getD (List.set l f s) g d_api_Section).held.length = (List.getD l g d_api_Section).held.length ∧ (List.getD (List.set l f s) g d_api_Section).live.length = (List.getD l g d_api_Section).live.length := by
  have := sec_set l f s hf g
  unfold sec at this
  rw [this]
  split
  · rename_i e; subst e; exact ⟨h1, h2⟩
  · exact ⟨rfl, rfl⟩
theorem fin_l39 (p : api_Program) {t : List api_Section} (f : Nat) (hf : f < p.funcs.length) (x : api_Node) (js : List Int) (k : Nat) (hk : k < js.length) (hkl : js.length ≤ 2) (y : Nat) (hy : List.getD js k 0 = (y : Int)) (hyl : y < (List.getD p.funcs f []).length) (live ex : W32) (bg : Bool) (hB : sub (lbh x live ex p.slots bg) (liv t f y)) (x6 x7 x9 x10 : W32) (x16 : Int) : ∀ (m id : Nat) (l : List api_Section), id + m = 32 → MidL p t l → ∃ l', alibiref23_Find_l39 l js p.globals p.locks p.slots p.funcs x6 x7 f x9 x10 f x.kind x.arg x.next x.alt x16 live ex bg (k : Int) (id : Int) = some l' ∧ MidL p t l' ∧ lackS l' ≤ lackS l ∧ (lackS l' = lackS l → l' = l ∧ ∀ b, id ≤ b → b < 32 → (lbh x live ex p.slots bg).getLsbD b = true → (liv l f y).getLsbD b = true)
  | 0, id, l, h, hm => by
    rw [alibiref23_Find_l39, if_neg (by simp only [decide_eq_true_eq]; omega)]
    exact ⟨l, rfl, hm, Nat.le_refl _, fun _ => ⟨rfl, fun b h1 h2 => by omega⟩⟩
  | m + 1, id, l, h, hm => by
    have hid : id < 32 := by omega
    have eb := refbehind16_eq x live ex p.slots bg id hid
    have hll := hm.shp.1
    have hh : (List.getD l f d_api_Section).live.length = (List.getD p.funcs f []).length := (hm.shp.2 f hf).2
    rw [alibiref23_Find_l39, if_pos (decide_eq_true (by omega)), bind_some (show alibiref16_Behind (api_Node.mk x.kind x.arg x.next x.alt) live ex p.slots bg (id : Int) = _ from eb), inc id (by omega)]
    by_cases c : (lbh x live ex p.slots bg).getLsbD id = true
    · have hup : sub (liv l f y ||| one (id : Int)) (liv t f y) := or_sub (hm.h f y hf hyl) fun b hb => by
        have := (one_bit _ _).1 hb
        have e : id = b := by omega
        subst e
        exact hB _ c
      obtain ⟨g1, g2, g3, g4⟩ := put_l hm hf hyl hup (sub_or_l _ _)
      have hlen := fun g => len_set (l := l) (f := f) (s := ⟨(sec l f).entry, (sec l f).exit, (sec l f).held, (sec l f).liveEntry, (sec l f).liveExit, List.set (sec l f).live y (liv l f y ||| one (id : Int))⟩) (by omega) rfl (by simp) g
      rw [if_pos c, if_pos (decide_eq_true (by omega)), if_pos (decide_eq_true (by omega)), Int.toNat_natCast k, hy, if_pos (decide_eq_true (by omega)), if_pos (decide_eq_true (by omega)), Int.toNat_natCast y, bind_some (add23_eq _ id hid), if_pos (decide_eq_true (by omega)), if_pos (decide_eq_true (hlen f).1), if_pos (decide_eq_true (hlen f).2)]
      obtain ⟨l', k1, k2, k3, k4⟩ := fin_l39 p f hf x js k hk hkl y hy hyl live ex bg hB x6 x7 x9 x10 x16 m (id + 1) (putL l f y (liv l f y ||| one (id : Int))) (by omega) g1
      refine ⟨l', k1, k2, by omega, fun e => ?_⟩
      have hwe : liv l f y ||| one (id : Int) = liv l f y := Classical.byContradiction fun hne => by
        have := g3 hne
        omega
      have hle := g4 hwe
      rw [hle] at k4 k3
      obtain ⟨r1, r2⟩ := k4 e
      refine ⟨r1, fun b h1 h2 h3 => ?_⟩
      rcases Nat.eq_or_lt_of_le h1 with rfl | h4
      · rw [← hwe, BitVec.getLsbD_or, Bool.or_eq_true, one_bit]
        exact .inr ⟨rfl, h2⟩
      · exact r2 b h4 h2 h3
    · rw [if_neg c]
      obtain ⟨l', k1, k2, k3, k4⟩ := fin_l39 p f hf x js k hk hkl y hy hyl live ex bg hB x6 x7 x9 x10 x16 m (id + 1) l (by omega) hm
      refine ⟨l', k1, k2, k3, fun e => ?_⟩
      obtain ⟨r1, r2⟩ := k4 e
      refine ⟨r1, fun b h1 h2 h3 => ?_⟩
      rcases Nat.eq_or_lt_of_le h1 with rfl | h4
      · exact absurd h3 c
      · exact r2 b h4 h2 h3
theorem fin_l36 (p : api_Program) (hg : Good p) {t : List api_Section} (f i : Nat) (hf : f < p.funcs.length) (hi : i < (List.getD p.funcs f []).length) (live ex : W32) (bg : Bool) (hB : ∀ y ∈ succ (nde p f i), sub (lbh (nde p f i) live ex p.slots bg) (liv t f y.toNat)) (x6 x7 x9 x10 : W32) (x16 : Int) : ∀ (m k : Nat) (l : List api_Section), k + m = (succ (nde p f i)).length → MidL p t l → ∃ l', alibiref23_Find_l36 l (succ (nde p f i)) p.globals p.locks p.slots p.funcs x6 x7 f x9 x10 f (nde p f i).kind (nde p f i).arg (nde p f i).next (nde p f i).alt x16 live ex bg (k : Int) = some l' ∧ MidL p t l' ∧ lackS l' ≤ lackS l ∧ (lackS l' = lackS l → l' = l ∧ ∀ y ∈ (succ (nde p f i)).drop k, subb (lbh (nde p f i) live ex p.slots bg) (liv l f y.toNat) = true)
  | 0, k, l, h, hm => by
    have hsl := succ_len (nde p f i)
    rw [alibiref23_Find_l36, if_neg (by simp only [decide_eq_true_eq]; omega), List.drop_eq_nil_of_le (by omega)]
    exact ⟨l, rfl, hm, Nat.le_refl _, fun _ => ⟨rfl, fun y hy => by cases hy⟩⟩
  | m + 1, k, l, h, hm => by
    have hsl := succ_len (nde p f i)
    have hok := hg.node f i hf hi
    have hjr := succ_ok hok (by omega)
    have hlt : k < (succ (nde p f i)).length := by omega
    have hr := hjr _ (List.getElem_mem hlt)
    obtain ⟨y, hy⟩ : ∃ y : Nat, (succ (nde p f i))[k] = (y : Int) := ⟨(succ (nde p f i))[k].toNat, by omega⟩
    have hgy : List.getD (succ (nde p f i)) k 0 = (y : Int) := by rw [← hy]; exact getD_el _ _ _ hlt
    rw [show (succ (List.getD (List.getD p.funcs f []) i d_api_Node))[k] = (y : Int) from hy] at hr
    have hyl : y < (List.getD p.funcs f []).length := by omega
    have hB1 := hB _ (List.getElem_mem hlt)
    rw [hy, Int.toNat_natCast] at hB1
    obtain ⟨l1, q1, q2, q3, q4⟩ := fin_l39 p f hf (nde p f i) (succ (nde p f i)) k hlt hsl y hgy hyl live ex bg hB1 x6 x7 x9 x10 x16 32 0 l rfl hm
    rw [show ((0 : Nat) : Int) = 0 from rfl] at q1
    obtain ⟨l', k1, k2, k3, k4⟩ := fin_l36 p hg f i hf hi live ex bg hB x6 x7 x9 x10 x16 m (k + 1) l1 (by omega) q2
    rw [alibiref23_Find_l36, if_pos (decide_eq_true (by omega)), bind_some q1, inc k (by omega)]
    refine ⟨l', k1, k2, by omega, fun e => ?_⟩
    obtain ⟨r1, r2⟩ := q4 (by omega)
    subst r1
    obtain ⟨r3, r4⟩ := k4 (by omega)
    refine ⟨r3, fun z hz => ?_⟩
    rw [List.drop_eq_getElem_cons hlt] at hz
    rcases List.mem_cons.1 hz with h5 | h5
    · rw [h5, hy, Int.toNat_natCast]
      exact subb_iff.2 fun b hb => r2 b (Nat.zero_le _) (bit_lt hb) hb
    · exact r4 z h5
theorem or_ne {a b : W32} (h : ¬ subb a b = true) : b ||| a ≠ b := fun e => h (subb_iff.2 (by rw [← e]; exact sub_or_r _ _))
theorem or_eq_sub {a b : W32} (h : b ||| a = b) : subb a b = true := subb_iff.2 (by rw [← h]; exact sub_or_r _ _)
theorem find_l13 (p : api_Program) (hg : Good p) {t : List api_Section} (ht : Shp p t) {bg : W32} (hkn : KnowL p bg) (hF : FineL p t bg) : ∀ (m r : Nat) (l : List api_Section), lackS l ≤ m → r + m < 200000 → MidL p t l → ∃ l', alibiref23_Find_l13 l p.globals p.locks p.slots p.funcs (r : Int) = some (.x0 l') ∧ MidL p t l' ∧ FineL p l' bg
  | m, r, l, hm, hr, hmid => by
    have hs := hmid.shp
    have hll := hs.1
    have hn := hg.funcs
    have hsl := hg.slots
    have step : ∀ l2, MidL p t l2 → lackS l2 < lackS l → ∃ l', alibiref23_Find_l13 l2 p.globals p.locks p.slots p.funcs (iAdd (r : Int) 1) = some (.x0 l') ∧ MidL p t l' ∧ FineL p l' bg := fun l2 h1 h2 => by
      match m, hm, hr with
      | 0, hm, hr => omega
      | m + 1, hm, hr =>
        rw [inc r (by omega)]
        exact find_l13 p hg ht hkn hF m (r + 1) l2 (by omega) (by omega) h1
    rw [alibiref23_Find_l13, if_pos (decide_eq_true (by omega)), bind_some ((refcheck16_eq p hg l hkn).1 hs)]
    by_cases hw : (checkL p l bg).what = 0
    · rw [if_pos (eqT hw)]
      exact ⟨l, rfl, hmid, fineL_to hs.1 hw⟩
    · rw [if_neg (eqF hw)]
      obtain ⟨f, hfl, hcase⟩ := faultL_cases hw
      have hf : f < p.funcs.length := by omega
      have hh : (List.getD l f d_api_Section).live.length = (List.getD p.funcs f []).length := (hs.2 f hf).2
      have hpos := (hg.len f hf).1
      rcases hcase with ⟨e, c1⟩ | ⟨i, hi, w, e, hwn, hnw⟩
      · rw [e]
        simp only []
        rw [if_pos (decide_eq_true (by omega)), if_pos (decide_eq_true (by omega)), if_pos (show decide ((-1 : Int) < 0) = true from rfl), Int.toNat_natCast f, if_pos (decide_eq_true (by omega))]
        obtain ⟨g1, g2, g3, g4⟩ := put_l hmid hf hpos (x := liv l f 0 ||| (sec l f).liveEntry) (or_sub (hmid.h f 0 hf hpos) (sub.trans (hmid.e f hf) (subb_iff.1 (hF f hf).1))) (sub_or_l _ _)
        exact step _ g1 (g3 (or_ne c1))
      · rw [e]
        simp only []
        have hok := hg.node f i hf hi
        obtain ⟨n7, n9, n5, nS⟩ := nodeL_iff.1 ((hF f hf).2 i hi)
        have hBt : ∀ y ∈ succ (nde p f i), sub (lbh (nde p f i) (liv t f i) (xit t (nde p f i)) p.slots (hasb bg (nde p f i).arg)) (liv t f y.toNat) := fun y hy => subb_iff.1 (List.all_eq_true.1 nS y hy)
        have hlive := subb_iff.2 (hmid.h f i hf hi)
        rw [if_pos (decide_eq_true (by omega)), if_pos (decide_eq_true (by omega)), if_neg (show ¬ decide ((i : Int) < 0) = true by simp only [decide_eq_true_eq]; omega), if_pos (decide_eq_true (by omega)), if_pos (decide_eq_true (by omega)), Int.toNat_natCast f, if_pos (decide_eq_true (by omega)), if_pos (decide_eq_true (by omega)), Int.toNat_natCast i]
        have hsucc : alibiref05_Succ (nde p f i) = some (succ (nde p f i)) := refsucc_eq _
        by_cases k5 : (nde p f i).kind = 5
        · have ha : 0 ≤ (nde p f i).arg ∧ (nde p f i).arg < p.funcs.length ∧ 0 ≤ (nde p f i).alt ∧ (nde p f i).alt < p.slots := hok.spawn k5
          obtain ⟨a, ha2⟩ : ∃ a : Nat, (nde p f i).arg = (a : Int) := ⟨(nde p f i).arg.toNat, by omega⟩
          have han : a < p.funcs.length := by omega
          obtain ⟨v, v1, v2⟩ := gather5 p hg a han
          obtain ⟨sl, hsl2⟩ : ∃ sl : Nat, p.slots = (sl : Int) := ⟨p.slots.toNat, by omega⟩
          have hadd := add23_eq (sec l a).liveEntry sl (by omega)
          rw [← hsl2] at hadd
          have hup : sub ((sec l a).liveEntry ||| one p.slots) (sec t a).liveEntry := or_sub (hmid.e a han) fun b hb => by
            have h5 := n5 k5
            rw [ha2, Int.toNat_natCast] at h5
            have h6 := subb_iff.1 ((subb_one (by omega) (by omega) _).2 h5)
            exact h6 b hb
          obtain ⟨g1, g2, g3, g4⟩ := put_e hmid han hup (sub_or_l _ _)
          have hlen := fun g => len_set (l := l) (f := a) (s := ⟨(sec l a).entry, (sec l a).exit, (sec l a).held, (sec l a).liveEntry ||| one p.slots, (sec l a).liveExit, (sec l a).live⟩) (by omega) rfl rfl g
          have hb : decide (((v.length : Nat) : Int) > 0) = hasb bg (nde p f i).arg := by
            rw [ha2, hasb_nat bg (by omega), Bool.eq_iff_iff, decide_eq_true_eq, hkn a]
            constructor
            · intro h; exact ⟨han, v2.1 (by omega)⟩
            · intro h; have := v2.2 h.2; omega
          have hx0 : xit l (nde p f i) = 0#32 := if_neg (by omega)
          have hx1 : xit t (nde p f i) = 0#32 := if_neg (by omega)
          have hB : ∀ y ∈ succ (nde p f i), sub (lbh (nde p f i) (liv l f i) 0#32 p.slots (hasb bg (nde p f i).arg)) (liv t f y.toNat) := fun y hy => sub.trans (subb_iff.1 (lbh_mono hlive (subb_refl _))) (by have := hBt y hy; rw [hx1] at this; exact this)
          obtain ⟨l', q1, q2, q3, q4⟩ := fin_l36 p hg f i hf hi (liv l f i) 0#32 (hasb bg (nde p f i).arg) hB (sec l f).entry (sec l f).exit (sec l f).liveEntry (sec l f).liveExit (r : Int) (succ (nde p f i)).length 0 (putE l a ((sec l a).liveEntry ||| one p.slots)) (Nat.zero_add _) g1
          rw [show ((0 : Nat) : Int) = 0 from rfl] at q1
          have ea : (List.getD (List.getD p.funcs f []) i d_api_Node).arg = (a : Int) := ha2
          rw [if_pos (eqT k5), if_pos (decide_eq_true (by omega)), if_pos (decide_eq_true (by omega)), ea, Int.toNat_natCast a, bind_some hadd, bind_some (show alibiref14_Gather (api_Program.mk p.globals p.locks p.slots p.funcs) (a : Int) 5 5 = _ from v1), bind_some hsucc, if_pos (decide_eq_true (hlen f).1), if_pos (decide_eq_true (hlen f).2), hb]
          rw [ha2] at q1
          rw [ha2]
          rw [bind_some (show _ = some l' from q1)]
          refine step l' q2 (Nat.lt_of_le_of_ne (by omega) fun e2 => ?_)
          have hwe : (sec l a).liveEntry ||| one p.slots = (sec l a).liveEntry := Classical.byContradiction fun hne => by
            have := g3 hne
            omega
          have hle := g4 hwe
          rw [hle] at q4
          obtain ⟨_, r2⟩ := q4 e2
          rw [List.drop_zero] at r2
          refine hwn (hnw.symm.trans (nodeL_iff.2 ⟨fun h => by omega, fun h => by omega, fun _ => ?_, List.all_eq_true.2 fun y hy => ?_⟩))
          · rw [ha2, Int.toNat_natCast]
            exact (subb_one (by omega) (by omega) _).1 (or_eq_sub hwe)
          · rw [hx0]
            exact r2 y hy
        · by_cases k7 : (nde p f i).kind = 7
          · have ha : 0 ≤ (nde p f i).arg ∧ (nde p f i).arg < p.funcs.length := hok.call k7
            obtain ⟨a, ha2⟩ : ∃ a : Nat, (nde p f i).arg = (a : Int) := ⟨(nde p f i).arg.toNat, by omega⟩
            have han : a < p.funcs.length := by omega
            have hup : sub ((sec l a).liveEntry ||| liv l f i) (sec t a).liveEntry := or_sub (hmid.e a han) (sub.trans (hmid.h f i hf hi) (by
              have h7 := n7 k7
              rw [ha2, Int.toNat_natCast] at h7
              exact subb_iff.1 h7))
            obtain ⟨g1, g2, g3, g4⟩ := put_e hmid han hup (sub_or_l _ _)
            have hlen := fun g => len_set (l := l) (f := a) (s := ⟨(sec l a).entry, (sec l a).exit, (sec l a).held, (sec l a).liveEntry ||| liv l f i, (sec l a).liveExit, (sec l a).live⟩) (by omega) rfl rfl g
            have hx0 : xit l (nde p f i) = (sec l a).liveExit := by
              unfold xit
              rw [if_pos k7, ha2, Int.toNat_natCast]
            have hx1 : xit t (nde p f i) = (sec t a).liveExit := by
              unfold xit
              rw [if_pos k7, ha2, Int.toNat_natCast]
            have hB : ∀ y ∈ succ (nde p f i), sub (lbh (nde p f i) (liv l f i) (sec l a).liveExit p.slots false) (liv t f y.toNat) := fun y hy => by
              rw [lbh_bg k5 _ _ _ false (hasb bg (nde p f i).arg)]
              exact sub.trans (subb_iff.1 (lbh_mono hlive (subb_iff.2 (hmid.x a han)))) (by have := hBt y hy; rw [hx1] at this; exact this)
            obtain ⟨l', q1, q2, q3, q4⟩ := fin_l36 p hg f i hf hi (liv l f i) (sec l a).liveExit false hB (sec l f).entry (sec l f).exit (sec l f).liveEntry (sec l f).liveExit (r : Int) (succ (nde p f i)).length 0 (putE l a ((sec l a).liveEntry ||| liv l f i)) (Nat.zero_add _) g1
            rw [show ((0 : Nat) : Int) = 0 from rfl] at q1
            have ea : (List.getD (List.getD p.funcs f []) i d_api_Node).arg = (a : Int) := ha2
            have eX : (List.getD (List.set l a ⟨(sec l a).entry, (sec l a).exit, (sec l a).held, (sec l a).liveEntry ||| liv l f i, (sec l a).liveExit, (sec l a).live⟩) a d_api_Section).liveExit = (sec l a).liveExit := by
              have := sec_set l a ⟨(sec l a).entry, (sec l a).exit, (sec l a).held, (sec l a).liveEntry ||| liv l f i, (sec l a).liveExit, (sec l a).live⟩ (by omega) a
              unfold sec at this ⊢
              rw [this, if_pos rfl]
            rw [if_neg (eqF k5), if_pos (eqT k7), if_pos (decide_eq_true (by omega)), if_pos (decide_eq_true (by omega)), ea, Int.toNat_natCast a, bind_some hsucc, if_pos (decide_eq_true (hlen f).1), if_pos (decide_eq_true (hlen f).2)]
            rw [ha2] at q1
            rw [show (List.getD (List.set l a (api_Section.mk (List.getD l a d_api_Section).entry (List.getD l a d_api_Section).exit (List.getD l a d_api_Section).held ((List.getD l a d_api_Section).liveEntry ||| List.getD (List.getD l f d_api_Section).live i 0#32) (List.getD l a d_api_Section).liveExit (List.getD l a d_api_Section).live)) a d_api_Section).liveExit = (sec l a).liveExit from eX]
            rw [bind_some (show _ = some l' from q1)]
            refine step l' q2 (Nat.lt_of_le_of_ne (by omega) fun e2 => ?_)
            have hwe : (sec l a).liveEntry ||| liv l f i = (sec l a).liveEntry := Classical.byContradiction fun hne => by
              have := g3 hne
              omega
            have hle := g4 hwe
            rw [hle] at q4
            obtain ⟨_, r2⟩ := q4 e2
            rw [List.drop_zero] at r2
            refine hwn (hnw.symm.trans (nodeL_iff.2 ⟨fun _ => ?_, fun h => by omega, fun h => absurd h k5, List.all_eq_true.2 fun y hy => ?_⟩))
            · rw [ha2, Int.toNat_natCast]
              exact or_eq_sub hwe
            · rw [hx0, lbh_bg k5 _ _ _ (hasb bg (nde p f i).arg) false]
              exact r2 y hy
          · have hx0 : xit l (nde p f i) = 0#32 := if_neg k7
            have hx1 : xit t (nde p f i) = 0#32 := if_neg k7
            have hB : ∀ y ∈ succ (nde p f i), sub (lbh (nde p f i) (liv l f i) 0#32 p.slots false) (liv t f y.toNat) := fun y hy => by
              rw [lbh_bg k5 _ _ _ false (hasb bg (nde p f i).arg)]
              exact sub.trans (subb_iff.1 (lbh_mono hlive (subb_refl _))) (by have := hBt y hy; rw [hx1] at this; exact this)
            by_cases k9 : (nde p f i).kind = 9
            · have hup : sub ((sec l f).liveExit ||| liv l f i) (sec t f).liveExit := or_sub (hmid.x f hf) (sub.trans (hmid.h f i hf hi) (subb_iff.1 (n9 k9)))
              obtain ⟨g1, g2, g3, g4⟩ := put_x hmid hf hup (sub_or_l _ _)
              have hlen := fun g => len_set (l := l) (f := f) (s := ⟨(sec l f).entry, (sec l f).exit, (sec l f).held, (sec l f).liveEntry, (sec l f).liveExit ||| liv l f i, (sec l f).live⟩) (by omega) rfl rfl g
              obtain ⟨l', q1, q2, q3, q4⟩ := fin_l36 p hg f i hf hi (liv l f i) 0#32 false hB (sec l f).entry (sec l f).exit (sec l f).liveEntry (sec l f).liveExit (r : Int) (succ (nde p f i)).length 0 (putX l f ((sec l f).liveExit ||| liv l f i)) (Nat.zero_add _) g1
              rw [show ((0 : Nat) : Int) = 0 from rfl] at q1
              rw [if_neg (eqF k5), if_neg (eqF k7), if_pos (eqT k9), bind_some hsucc, if_pos (decide_eq_true (hlen f).1), if_pos (decide_eq_true (hlen f).2), bind_some (show _ = some l' from q1)]
              refine step l' q2 (Nat.lt_of_le_of_ne (by omega) fun e2 => ?_)
              have hwe : (sec l f).liveExit ||| liv l f i = (sec l f).liveExit := Classical.byContradiction fun hne => by
                have := g3 hne
                omega
              have hle := g4 hwe
              rw [hle] at q4
              obtain ⟨_, r2⟩ := q4 e2
              rw [List.drop_zero] at r2
              refine hwn (hnw.symm.trans (nodeL_iff.2 ⟨fun h => absurd h k7, fun _ => or_eq_sub hwe, fun h => absurd h k5, List.all_eq_true.2 fun y hy => ?_⟩))
              rw [hx0, lbh_bg k5 _ _ _ (hasb bg (nde p f i).arg) false]
              exact r2 y hy
            · obtain ⟨l', q1, q2, q3, q4⟩ := fin_l36 p hg f i hf hi (liv l f i) 0#32 false hB (sec l f).entry (sec l f).exit (sec l f).liveEntry (sec l f).liveExit (r : Int) (succ (nde p f i)).length 0 l (Nat.zero_add _) hmid
              rw [show ((0 : Nat) : Int) = 0 from rfl] at q1
              rw [if_neg (eqF k5), if_neg (eqF k7), if_neg (eqF k9), bind_some hsucc, bind_some (show _ = some l' from q1)]
              refine step l' q2 (Nat.lt_of_le_of_ne (by omega) fun e2 => ?_)
              obtain ⟨_, r2⟩ := q4 e2
              rw [List.drop_zero] at r2
              refine hwn (hnw.symm.trans (nodeL_iff.2 ⟨fun h => absurd h k7, fun h => absurd h k9, fun h => absurd h k5, List.all_eq_true.2 fun y hy => ?_⟩))
              rw [hx0, lbh_bg k5 _ _ _ (hasb bg (nde p f i).arg) false]
              exact r2 y hy
theorem begin_l7 (x0 : List api_Section) (x3 x4 x5 : Int) (fs : FS) (hlen : ∀ f, (List.getD fs f []).length ≤ 65536) (x7 x8 x9 x10 : W32) (f : Nat) (hf : f < fs.length) : ∀ (m i : Nat) (h k : List W32), i + m = (List.getD fs f []).length → h = List.replicate i 0#32 → k = List.replicate i 0#32 → alibiref23_Find_l7 x0 h k x3 x4 x5 fs x7 x8 x9 x10 (f : Int) (i : Int) = some (List.replicate (List.getD fs f []).length 0#32, List.replicate (List.getD fs f []).length 0#32)
  | 0, i, h, k, hi, h1, h2 => by
    rw [alibiref23_Find_l7, if_pos (decide_eq_true (by omega)), if_pos (decide_eq_true (by omega)), Int.toNat_natCast f, if_neg (by simp only [decide_eq_true_eq]; omega), h1, h2, show i = (List.getD fs f []).length by omega]
  | m + 1, i, h, k, hi, h1, h2 => by
    have hl := hlen f
    have e1 : h.length = i := by rw [h1]; simp
    have e2 : k.length = i := by rw [h2]; simp
    rw [alibiref23_Find_l7, if_pos (decide_eq_true (by omega)), if_pos (decide_eq_true (by omega)), Int.toNat_natCast f, if_pos (decide_eq_true (by omega)), if_pos (Nat.ble_eq_true_of_le (by simp only [List.length_singleton, reach]; omega)), if_pos (Nat.ble_eq_true_of_le (by simp only [List.length_singleton, reach]; omega)), inc i (by omega)]
    exact begin_l7 x0 x3 x4 x5 fs hlen x7 x8 x9 x10 f hf m (i + 1) _ _ (by omega) (by rw [h1, List.replicate_succ']) (by rw [h2, List.replicate_succ'])
theorem begin_l3 (p : api_Program) (hg : Good p) : ∀ (m f : Nat) (t : List api_Section), f + m = p.funcs.length → t.length = f → (∀ g, g < f → sec t g = ⟨0#32, 0#32, List.replicate (List.getD p.funcs g []).length 0#32, 0#32, 0#32, List.replicate (List.getD p.funcs g []).length 0#32⟩) → ∃ t', alibiref23_Find_l3 t p.globals p.locks p.slots p.funcs (f : Int) = some t' ∧ t'.length = p.funcs.length ∧ ∀ g, g < p.funcs.length → sec t' g = ⟨0#32, 0#32, List.replicate (List.getD p.funcs g []).length 0#32, 0#32, 0#32, List.replicate (List.getD p.funcs g []).length 0#32⟩
  | 0, f, t, h, hl, hget => by
    rw [alibiref23_Find_l3, if_neg (by simp only [decide_eq_true_eq]; omega)]
    exact ⟨t, rfl, by omega, fun g hg => hget g (by omega)⟩
  | m + 1, f, t, h, hl, hget => by
    have hn := hg.funcs
    have q := begin_l7 t p.globals p.locks p.slots p.funcs (fun f => by have := hg.le f; omega) 0#32 0#32 0#32 0#32 f (by omega) (List.getD p.funcs f []).length 0 [] [] (Nat.zero_add _) rfl rfl
    rw [show ((0 : Nat) : Int) = 0 from rfl] at q
    rw [alibiref23_Find_l3, if_pos (decide_eq_true (by omega)), bind_some q, if_pos (Nat.ble_eq_true_of_le (by simp only [List.length_singleton, reach]; omega)), inc f (by omega)]
    refine begin_l3 p hg m (f + 1) _ (by omega) (by rw [List.length_append, List.length_singleton]; omega) fun g hgf => ?_
    unfold sec
    rw [getD_snoc]
    split
    · rename_i e
      subst e
      rw [hl]
    · exact hget g (by omega)
theorem lackS_le {n : Nat} : ∀ l : List api_Section, (∀ s ∈ l, s.live.length ≤ n) → lackS l ≤ (64 + 32 * n) * l.length
  | [], _ => by simp [lackS]
  | s :: l, h => by
    have h1 := lackS_le l fun x hx => h x (List.mem_cons_of_mem _ hx)
    have h2 := h s List.mem_cons_self
    have h3 := Dpops_le s.live
    have h4 := Dpop_32 s.liveEntry
    have h5 := Dpop_32 s.liveExit
    have h6 : lackS (s :: l) = secLack s + lackS l := by simp [lackS]
    rw [h6, List.length_cons, Nat.mul_succ]
    unfold secLack
    have : 32 * s.live.length ≤ 32 * n := Nat.mul_le_mul_left _ h2
    omega
theorem zero_subL (a : W32) : sub 0#32 a := fun i h => by simp at h
theorem reffind23_eq (p : api_Program) (hg : Good p) {t : List api_Section} (ht : Shp p t) {bg : W32} (hkn : KnowL p bg) (hF : FineL p t bg) : ∃ l', alibiref23_Find p = some l' ∧ MidL p t l' ∧ FineL p l' bg := by
  have hn := hg.funcs
  obtain ⟨l0, b1, b2, b3⟩ := begin_l3 p hg p.funcs.length 0 [] (Nat.zero_add _) rfl (fun g h => by omega)
  rw [show ((0 : Nat) : Int) = 0 from rfl] at b1
  have hrep : ∀ g i, g < p.funcs.length → i < (List.getD p.funcs g []).length → liv l0 g i = 0#32 := fun g i hg hi => by
    show List.getD (sec l0 g).live i 0#32 = _
    rw [b3 g hg]
    exact rep_get _ _ _ hi
  have hmid : MidL p t l0 := by
    refine ⟨⟨b2, fun g hg => ?_⟩, fun g hg => ?_, fun g hg => ?_, fun g i hg hi => ?_⟩
    · rw [b3 g hg]; simp
    · rw [b3 g hg]; exact zero_subL _
    · rw [b3 g hg]; exact zero_subL _
    · rw [hrep g i hg hi]; exact zero_subL _
  have hme : lackS l0 ≤ (64 + 32 * 64) * l0.length := lackS_le l0 fun s hs => by
    obtain ⟨g, hgl, e⟩ := List.mem_iff_getElem.1 hs
    have h1 : sec l0 g = s := by
      rw [← e]
      unfold sec
      simp [List.getD, hgl]
    rw [← h1, b3 g (by omega)]
    show (List.replicate (List.getD p.funcs g []).length 0#32).length ≤ 64
    rw [List.length_replicate]
    exact hg.le g
  obtain ⟨l', k1, k2, k3⟩ := find_l13 p hg ht hkn hF (lackS l0) 0 l0 (Nat.le_refl _) (by omega) hmid
  rw [show ((0 : Nat) : Int) = 0 from rfl] at k1
  unfold alibiref23_Find
  rw [bind_some b1, bind_some k1]
  exact ⟨l', rfl, k2, k3⟩
theorem finds_l16 (a l : List api_Section) (f : Nat) (hf : f < l.length) (hfa : f < a.length) (hh : (List.getD a f d_api_Section).live.length = (List.getD l f d_api_Section).live.length) (hn : (List.getD l f d_api_Section).live.length ≤ 65536) (hv : (List.getD a f d_api_Section).held = List.replicate (List.getD l f d_api_Section).live.length 0#32) (h : ∀ i, i < (List.getD l f d_api_Section).live.length → liv a f i = liv l f i) : ∀ (k i : Nat), i + k = (List.getD l f d_api_Section).live.length → alibilaw23_LiveFinds_l16 a l (f : Int) (i : Int) = some .x1
  | 0, i, hi => by
    rw [alibilaw23_LiveFinds_l16, if_pos (decide_eq_true (by omega)), if_pos (decide_eq_true (by omega)), Int.toNat_natCast f, if_neg (by simp only [decide_eq_true_eq]; omega)]
  | k + 1, i, hi => by
    have h1 : List.getD (List.getD a f d_api_Section).live i 0#32 = List.getD (List.getD l f d_api_Section).live i 0#32 := h i (by omega)
    have h2 : (List.getD a f d_api_Section).held.length = (List.getD l f d_api_Section).live.length := by rw [hv, List.length_replicate]
    have h3 : List.getD (List.getD a f d_api_Section).held i 0#32 = 0#32 := by
      rw [hv]
      exact rep_get _ _ _ (by omega)
    rw [alibilaw23_LiveFinds_l16, if_pos (decide_eq_true (by omega)), if_pos (decide_eq_true (by omega)), Int.toNat_natCast f, if_pos (decide_eq_true (by omega)), if_pos (decide_eq_true (by omega)), if_pos (decide_eq_true (by omega)), if_pos (decide_eq_true (by omega)), if_pos (decide_eq_true (by omega)), Int.toNat_natCast i, h1, if_neg (by simp), if_pos (decide_eq_true (by omega)), h3, if_neg (by simp), inc i (by omega)]
    exact finds_l16 a l f hf hfa hh hn hv h k (i + 1) (by omega)
theorem finds_l11 (p : api_Program) (hg : Good p) (v : List W32) (a l : List api_Section) (ha : Shp p a) (hl : Shp p l) (hfo : ∀ g, g < p.funcs.length → FoundL p v g (sec a g)) (he : ∀ f, f < p.funcs.length → (sec a f).liveEntry = (sec l f).liveEntry) (hx : ∀ f, f < p.funcs.length → (sec a f).liveExit = (sec l f).liveExit) (hh : ∀ f i, f < p.funcs.length → i < (List.getD p.funcs f []).length → liv a f i = liv l f i) : ∀ (k f : Nat), f + k = a.length → alibilaw23_LiveFinds_l11 a l (f : Int) = some .x1
  | 0, f, hi => by
    rw [alibilaw23_LiveFinds_l11, if_neg (by simp only [decide_eq_true_eq]; omega)]
  | k + 1, f, hi => by
    have h1 := ha.1
    have h2 := hl.1
    have hn := hg.funcs
    have hle := hg.le f
    have hf : f < p.funcs.length := by omega
    have h3 : (List.getD a f d_api_Section).held.length = (List.getD p.funcs f []).length := (ha.2 f hf).1
    have h4 : (List.getD l f d_api_Section).held.length = (List.getD p.funcs f []).length := (hl.2 f hf).1
    have h5 : (List.getD a f d_api_Section).live.length = (List.getD p.funcs f []).length := (ha.2 f hf).2
    have h6 : (List.getD l f d_api_Section).live.length = (List.getD p.funcs f []).length := (hl.2 f hf).2
    have hF := hfo f hf
    have q := finds_l16 a l f (by omega) (by omega) (by omega) (by omega) (by rw [h6]; exact hF.hd) (fun i hi => hh f i hf (by omega)) (List.getD l f d_api_Section).live.length 0 (Nat.zero_add _)
    rw [show ((0 : Nat) : Int) = 0 from rfl] at q
    rw [alibilaw23_LiveFinds_l11, if_pos (decide_eq_true (by omega)), if_pos (decide_eq_true (by omega)), if_pos (decide_eq_true (by omega)), if_pos (decide_eq_true (by omega)), Int.toNat_natCast f, show (List.getD a f d_api_Section).liveEntry = (List.getD l f d_api_Section).liveEntry from he f hf, if_neg (by simp), show (List.getD a f d_api_Section).liveExit = (List.getD l f d_api_Section).liveExit from hx f hf, if_neg (by simp), show (List.getD a f d_api_Section).entry = 0#32 from hF.en, if_neg (by simp), show (List.getD a f d_api_Section).exit = 0#32 from hF.ex, if_neg (by simp), if_neg (neF (by omega)), if_neg (neF (by omega)), bind_some q, inc f (by omega)]
    exact finds_l11 p hg v a l ha hl hfo he hx hh k (f + 1) (by omega)
theorem small23_l3 (x0 x1 x2 : Int) (fs : FS) (hn : fs.length ≤ 1000000000000000000) : ∀ (m i : Nat) (s : Int), i + m = fs.length → ∃ s', alibilaw23_small_l3 x0 x1 x2 fs s (i : Int) = some s'
  | 0, i, s, h => by
    rw [alibilaw23_small_l3, if_neg (by simp only [decide_eq_true_eq]; omega)]
    exact ⟨s, rfl⟩
  | m + 1, i, s, h => by
    have e : iAdd (i : Int) 1 = ((i + 1 : Nat) : Int) := by rw [iAdd_eq (by omega) (by omega)]; omega
    rw [alibilaw23_small_l3, if_pos (decide_eq_true (by omega)), if_pos (decide_eq_true (by omega)), if_pos (decide_eq_true (by omega)), e]
    exact small23_l3 x0 x1 x2 fs hn m (i + 1) _ (by omega)
theorem small23_eq (p : api_Program) (hn : p.funcs.length ≤ 1000000000000000000) : ∃ b, alibilaw23_small p = some b := by
  obtain ⟨s, s1⟩ := small23_l3 p.globals p.locks p.slots p.funcs hn p.funcs.length 0 0 (Nat.zero_add _)
  rw [show ((0 : Nat) : Int) = 0 from rfl] at s1
  obtain ⟨b, b1, _⟩ := small_eq p
  unfold alibilaw23_small
  rw [bind_some s1, bind_some b1]
  cases b with
  | true => exact ⟨_, rfl⟩
  | false => exact ⟨_, rfl⟩
theorem liveFinds (p : api_Program) (hn : p.funcs.length ≤ 1000000000000000000) : alibilaw23_LiveFinds p = some true := by
  unfold alibilaw23_LiveFinds
  rw [bind_some awake23, if_neg (by decide)]
  obtain ⟨sm, s1⟩ := small23_eq p hn
  rw [bind_some s1]
  cases sm with
  | false => rw [if_pos (by decide), bind_some awake23]
  | true =>
    rw [if_neg (by decide)]
    obtain ⟨⟨ra, rb, re⟩, r1, r0, r2, _⟩ := check_eq p
    by_cases he : re = 0
    · obtain ⟨r5, hg⟩ := r2 he
      rw [r5] at r1 r0
      obtain ⟨bg, h, hkn⟩ := begins_eq p hg r1
      obtain ⟨v, t, t1, t2, t3, t4, t5⟩ := findL_eq p hg h
      obtain ⟨hL, hS⟩ := found_laysL t3 t4 t5
      have hk : DKeeps (funcsRL p bg 0 p.funcs.length) (base p.funcs p.funcs.length) v := by
        have := t2.keeps
        rw [List.length_replicate] at this
        exact this
      have hF := (keepsL_iff hg hL).1 hk
      have hz : ¬ ((0 : Int) != 0) = true := by decide
      obtain ⟨w, w1, w2, w3⟩ := reffind23_eq p hg hS hkn hF
      obtain ⟨z, z1⟩ := laysL_ex p w w2.shp
      have hb := least_of t2 ((keepsL_iff hg z1).2 w3)
      rw [bind_some t1, bind_some r0, if_neg hz, bind_some w1, if_neg hz]
      have hwl := w2.shp.1
      rw [if_neg (neF (show ((t.length : Nat) : Int) = ((w.length : Nat) : Int) by omega))]
      have q := finds_l11 p hg v t w hS w2.shp t5 (fun f hf => sub.antisymm (by
        have := hb (base p.funcs f : Int)
        rw [z1.ent f hf, hL.ent f hf] at this
        exact this) (w2.e f hf)) (fun f hf => sub.antisymm (by
        have := hb ((base p.funcs f + 1 : Nat) : Int)
        rw [z1.exi f hf, hL.exi f hf] at this
        exact this) (w2.x f hf)) (fun f i hf hi => sub.antisymm (by
        have := hb ((base p.funcs f + 2 + i : Nat) : Int)
        rw [z1.nod f i hf hi, hL.nod f i hf hi] at this
        exact this) (w2.h f i hf hi)) t.length 0 (Nat.zero_add _)
      rw [show ((0 : Nat) : Int) = 0 from rfl] at q
      rw [bind_some q]
    · rw [bind_some (findL_bad p r1 he), bind_some r0, if_pos (neT he), if_pos (by simp)]
      rfl
end Go.Bm.GoYtdifolgbppffpaa
