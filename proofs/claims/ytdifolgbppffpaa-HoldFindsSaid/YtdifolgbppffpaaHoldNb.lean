/- Laws of what the claim reaches. -/
import Derived.Test.YtdifolgbppffpaaHoldNa
namespace Go.Bm.GoYtdifolgbppffpaa
set_option autoImplicit false
set_option linter.unusedVariables false
set_option linter.unusedSimpArgs false
set_option maxRecDepth 100000
theorem wswp_perm (l : List Int) (i k : Nat) (hi : i < l.length) (hk : k < l.length) : (wswp l i k).Perm l := by
  refine List.perm_iff_count.2 fun a => ?_
  have e1 : l.getD k 0 = l[k] := by simp [List.getD, hk]
  have e2 : l.getD i 0 = l[i] := by simp [List.getD, hi]
  unfold wswp
  rw [e1, e2, List.count_set (by simpa using hk), List.count_set hi, List.getElem_set]
  have c1 : 0 < l.count l[i] := List.count_pos_iff.2 (List.getElem_mem hi)
  have c2 : 0 < l.count l[k] := List.count_pos_iff.2 (List.getElem_mem hk)
  by_cases hik : i = k
  · subst hik
    simp only [if_true]
    by_cases ha : l[i] = a
    · subst ha; simp
    · have : (l[i] == a) = false := by simpa using ha
      simp [this]
  · rw [if_neg hik]
    by_cases ha : l[i] = a <;> by_cases hb : l[k] = a
    · simp [ha, hb]; subst ha; omega
    · simp [ha, hb]; subst ha; omega
    · simp [ha, hb]
    · simp [ha, hb]
theorem wless_eq (l : List Int) (b : List Bool) (i k : Int) (hi : 0 ≤ i) (hi' : i < l.length) (hk : 0 ≤ k) (hk' : k < l.length) : ∃ c, flow_todo_Less l b i k = some c := by
  unfold flow_todo_Less
  rw [if_pos (decide_eq_true hi), if_pos (decide_eq_true hi'), if_pos (decide_eq_true hk), if_pos (decide_eq_true hk')]
  exact ⟨_, rfl⟩
theorem wswap_eq (l : List Int) (b : List Bool) (i k : Int) (hi : 0 ≤ i) (hi' : i < l.length) (hk : 0 ≤ k) (hk' : k < l.length) : flow_todo_Swap l b i k = some (wswp l i.toNat k.toNat) := by
  unfold flow_todo_Swap
  rw [if_pos (decide_eq_true hk), if_pos (decide_eq_true hk'), if_pos (decide_eq_true hi), if_pos (decide_eq_true hi')]
  rfl
/-- Up the heap: the same numbers; it ends. -/
theorem wup_eq (b : List Bool) : ∀ (n : Nat) (l : List Int) (j : Int), j.toNat ≤ n → 0 ≤ j → j < l.length → l.length ≤ 1000000 → ∃ l', heap_up_1_l0 l b j = some l' ∧ l'.Perm l
  | n, l, j, hn, h0, hj, hl => by
    rw [heap_up_1_l0]
    rcases Int.lt_or_le j 1 with hj1 | hj1
    · have : j = 0 := by omega
      subst this
      rw [if_pos (by decide)]
      exact ⟨l, rfl, .refl _⟩
    · have e1 : iSub j 1 = j - 1 := iSub_eq (by omega) (by omega)
      have e3 : (j - 1).tdiv 2 = (j - 1) / 2 := Int.tdiv_eq_ediv_of_nonneg (by omega)
      have e2 : iQuo (iSub j 1) 2 = (j - 1) / 2 := by
        rw [e1]
        unfold iQuo
        rw [e3]
        exact wrap64 (by omega) (by omega)
      rw [e2]
      have hi0 : 0 ≤ (j - 1) / 2 := by omega
      have hi1 : (j - 1) / 2 < j := by omega
      rw [if_neg (by simp; omega)]
      obtain ⟨c, hc⟩ := wless_eq l b j ((j - 1) / 2) h0 hj hi0 (by omega)
      rw [hc]
      simp only [bind, Option.bind_some]
      by_cases hcc : (!c) = true
      · rw [if_pos hcc]
        exact ⟨l, rfl, .refl _⟩
      · rw [if_neg hcc, wswap_eq l b _ _ hi0 (by omega) h0 hj]
        simp only [Option.bind_some]
        have hp := wswp_perm l ((j - 1) / 2).toNat j.toNat (by omega) (by omega)
        have hlen := wswp_len l ((j - 1) / 2).toNat j.toNat
        match n, hn with
        | 0, hn => omega
        | n + 1, hn =>
          obtain ⟨l', h1, h2⟩ := wup_eq b n (wswp l ((j - 1) / 2).toNat j.toNat) ((j - 1) / 2) (by omega) hi0 (by rw [hlen]; omega) (by rw [hlen]; exact hl)
          exact ⟨l', h1, h2.trans hp⟩
/-- Down the heap: the same numbers; it ends. -/
theorem wdown_eq (b : List Bool) (x2 : Int) (N : Nat) (l0 : List Int) : ∀ (n : Nat) (l : List Int) (i : Int), N - i.toNat ≤ n → 0 ≤ i → i < l.length → N ≤ l.length → l.length ≤ 1000000 → ∃ r, heap_down_1_l2 l b x2 (N : Int) i = some r ∧ r.1.Perm l
  | n, l, i, hn, h0, hi, hN, hl => by
    rw [heap_down_1_l2]
    have e1 : iMul 2 i = 2 * i := iMul_eq (by omega) (by omega)
    have e2 : iAdd (iMul 2 i) 1 = 2 * i + 1 := by rw [e1]; exact iAdd_eq (by omega) (by omega)
    have e3 : iAdd (iAdd (iMul 2 i) 1) 1 = 2 * i + 2 := by rw [e2, iAdd_eq (by omega) (by omega)]; omega
    rw [e3, e2]
    have step : ∀ j : Int, i < j → j < (N : Int) → ∃ r, (heap_down_1_l2 (wswp l i.toNat j.toNat) b x2 (N : Int) j) = some r ∧ r.1.Perm l := by
      intro j h1 h2
      have hp := wswp_perm l i.toNat j.toNat (by omega) (by omega)
      have hlen := wswp_len l i.toNat j.toNat
      match n, hn with
      | 0, hn => omega
      | n + 1, hn =>
        obtain ⟨r, h3, h4⟩ := wdown_eq b x2 N l0 n (wswp l i.toNat j.toNat) j (by omega) (by omega) (by rw [hlen]; omega) (by rw [hlen]; exact hN) (by rw [hlen]; exact hl)
        exact ⟨r, h3, h4.trans hp⟩
    have go : ∀ j : Int, i < j → j < (N : Int) → ∃ r, (bind (flow_todo_Less l b j i) fun v => if (!v) = true then some (l, i) else bind (flow_todo_Swap l b i j) fun v => heap_down_1_l2 v b x2 (N : Int) j) = some r ∧ r.1.Perm l := by
      intro j h1 h2
      obtain ⟨c, hc⟩ := wless_eq l b j i (by omega) (by omega) h0 hi
      rw [hc]
      simp only [bind, Option.bind_some]
      by_cases hcc : (!c) = true
      · rw [if_pos hcc]; exact ⟨(l, i), rfl, .refl _⟩
      · rw [if_neg hcc, wswap_eq l b i j h0 hi (by omega) (by omega)]
        exact step j h1 h2
    by_cases h1 : (2 * i + 1 : Int) ≥ N
    · rw [if_pos (decide_eq_true h1)]; exact ⟨(l, i), rfl, .refl _⟩
    · rw [if_neg (by simpa using h1), if_neg (by simp; omega)]
      by_cases h2 : (2 * i + 2 : Int) < N
      · rw [if_pos (decide_eq_true h2)]
        obtain ⟨c, hc⟩ := wless_eq l b (2 * i + 2) (2 * i + 1) (by omega) (by omega) (by omega) (by omega)
        rw [hc]
        simp only [bind, Option.bind_some]
        cases c with
        | true => exact go (2 * i + 2) (by omega) h2
        | false => exact go (2 * i + 1) (by omega) (by omega)
      · rw [if_neg (by simpa using h2)]
        exact go (2 * i + 1) (by omega) (by omega)
theorem wshort : ∀ (n : Nat) (l : List Int), l.Nodup → (∀ x ∈ l, 0 ≤ x ∧ x < (n : Int)) → l.length ≤ n
  | 0, l, _, h => by
    cases l with
    | nil => simp
    | cons x l => have := h x (by simp); omega
  | n + 1, l, hn, h => by
    have h1 := wshort n (l.erase (n : Int)) (hn.erase _) fun x hx => by
      have h2 := h x (List.mem_of_mem_erase hx)
      have h3 : x ≠ (n : Int) := fun e => by
        subst e
        exact (List.Nodup.not_mem_erase hn) hx
      omega
    have h4 : l.length ≤ (l.erase (n : Int)).length + 1 := by
      rw [List.length_erase]
      split <;> omega
    omega
structure WK (n : Nat) (l : List Int) (b : List Bool) : Prop where
  len : b.length = n
  nd : l.Nodup
  rng : ∀ x ∈ l, 0 ≤ x ∧ x < (n : Int)
  is : ∀ i : Nat, i < n → (b.getD i false = true ↔ (i : Int) ∈ l)
theorem wpush_eq (l : List Int) (b : List Bool) (x : Int) (hl : l.length ≤ 65536) : ∃ l', heap_Push_1 l b x = some l' ∧ l'.Perm (l ++ [x]) := by
  unfold heap_Push_1 flow_todo_Push flow_todo_Len heap_up_1
  rw [if_pos (Nat.ble_eq_true_of_le (by simp only [List.length_singleton, reach]; omega))]
  simp only [bind, Option.bind_some]
  have e1 : iSub (((l ++ [x]).length : Nat) : Int) 1 = l.length := by
    rw [List.length_append, List.length_singleton, iSub_eq (by omega) (by omega)]; omega
  rw [e1]
  obtain ⟨l', h1, h2⟩ := wup_eq b l.length (l ++ [x]) (l.length : Int) (by omega) (by omega) (by simp; omega) (by simp; omega)
  rw [h1]
  exact ⟨l', rfl, h2⟩
theorem add_eq {n : Nat} (hn : n ≤ 65536) {l : List Int} {b : List Bool} (h : WK n l b) {i : Int} (h0 : 0 ≤ i) (hi : i < (n : Int)) : ∃ l' b', flow_todo_add l b i = some (l', b') ∧ WK n l' b' ∧ (∀ x, x ∈ l' ↔ x ∈ l ∨ x = i) ∧ l'.length ≤ l.length + 1 := by
  unfold flow_todo_add
  rw [if_pos (decide_eq_true h0), if_pos (decide_eq_true (by rw [h.len]; exact hi))]
  have hii : ((i.toNat : Nat) : Int) = i := by omega
  have his := h.is i.toNat (by omega)
  rw [hii] at his
  cases hb : b.getD i.toNat false with
  | true =>
    rw [if_neg (by simp)]
    have hm := his.1 hb
    exact ⟨l, b, rfl, h, fun x => ⟨.inl, fun hx => hx.elim id fun e => e ▸ hm⟩, by omega⟩
  | false =>
    rw [if_pos (by simp)]
    have hm : i ∉ l := fun hm => by rw [his.2 hm] at hb; cases hb
    obtain ⟨l', h1, h2⟩ := wpush_eq l (b.set i.toNat true) i (by have := wshort n l h.nd h.rng; omega)
    rw [h1]
    refine ⟨l', _, rfl, ⟨by simp [h.len], ?_, fun x hx => ?_, fun k hk => ?_⟩, fun x => ?_, ?_⟩
    · refine h2.nodup_iff.2 (List.nodup_append.2 ⟨h.nd, by simp, fun a ha c hc => ?_⟩)
      simp at hc
      subst hc
      exact fun e => hm (e ▸ ha)
    · have := h2.mem_iff.1 hx
      simp at this
      rcases this with hx | rfl
      · exact h.rng x hx
      · exact ⟨h0, hi⟩
    · rw [h2.mem_iff]
      simp only [List.mem_append, List.mem_singleton]
      by_cases hki : k = i.toNat
      · subst hki
        simp only [hii, or_true, iff_true]
        simp [List.getD, h.len, hk]
      · have h3 : ¬ (k : Int) = i := by omega
        have h4 : i.toNat ≠ k := fun e => hki e.symm
        simp only [h3, or_false]
        rw [← h.is k hk]
        simp [List.getD, List.getElem?_set, h4]
    · rw [h2.mem_iff]; simp
    · have := h2.length_eq
      simp at this
      omega
theorem wpop_eq (l : List Int) (b : List Bool) (h0 : 0 < l.length) (hl : l.length ≤ 65536) : ∃ x l', heap_Pop_1 l b = some (x, l') ∧ (l' ++ [x]).Perm l := by
  unfold heap_Pop_1 flow_todo_Len
  have e1 : iSub ((l.length : Nat) : Int) 1 = ((l.length - 1 : Nat) : Int) := by rw [iSub_eq (by omega) (by omega)]; omega
  simp only [bind, Option.bind_some, e1]
  rw [wswap_eq l b 0 ((l.length - 1 : Nat) : Int) (by omega) (by omega) (by omega) (by omega)]
  simp only [Option.bind_some]
  have hp := wswp_perm l (0 : Int).toNat ((l.length - 1 : Nat) : Int).toNat (by simp; omega) (by omega)
  have hlen := wswp_len l (0 : Int).toNat ((l.length - 1 : Nat) : Int).toNat
  unfold heap_down_1
  obtain ⟨r, h1, h2⟩ := wdown_eq b 0 (l.length - 1) l (l.length - 1) (wswp l (0 : Int).toNat ((l.length - 1 : Nat) : Int).toNat) 0 (by omega) (by omega) (by rw [hlen]; omega) (by rw [hlen]; omega) (by rw [hlen]; omega)
  rw [h1]
  simp only [bind, Option.bind_some]
  have hrl : r.1.length = l.length := h2.length_eq.trans hlen
  unfold flow_todo_Pop
  have e2 : iSub ((r.1.length : Nat) : Int) 1 = ((l.length - 1 : Nat) : Int) := by rw [hrl]; exact e1
  rw [e2, if_pos (decide_eq_true (by omega)), if_pos (decide_eq_true (by omega)), if_pos (decide_eq_true (by omega))]
  refine ⟨_, _, rfl, ?_⟩
  have e3 : (((l.length - 1 : Nat) : Int)).toNat = l.length - 1 := by omega
  rw [e3]
  have e4 : List.take (l.length - 1) r.1 ++ [r.1.getD (l.length - 1) 0] = r.1 := by
    have hlt : l.length - 1 < r.1.length := by omega
    have := List.take_append_getElem hlt
    rw [List.getD_eq_getElem?_getD, List.getElem?_eq_getElem hlt]
    simp only [Option.getD_some]
    rw [this]
    exact List.take_of_length_le (by omega)
  rw [e4]
  exact h2.trans hp
theorem next_eq {n : Nat} (hn : n ≤ 65536) {l : List Int} {b : List Bool} (h : WK n l b) (h0 : 0 < l.length) : ∃ i l' b', flow_todo_next l b = some (i, l', b') ∧ i ∈ l ∧ WK n l' b' ∧ (∀ x, x ∈ l' ↔ x ∈ l ∧ x ≠ i) ∧ l'.length + 1 = l.length := by
  have hs := wshort n l h.nd h.rng
  obtain ⟨x, l', h1, h2⟩ := wpop_eq l b h0 (by omega)
  unfold flow_todo_next
  rw [h1]
  simp only [bind, Option.bind_some]
  have hxm : x ∈ l := h2.mem_iff.1 (by simp)
  have hxr := h.rng x hxm
  rw [if_pos (decide_eq_true hxr.1), if_pos (decide_eq_true (by rw [h.len]; exact hxr.2))]
  have hnd : (l' ++ [x]).Nodup := h2.nodup_iff.2 h.nd
  have hnx : x ∉ l' := fun hm => by
    have := (List.nodup_append.1 hnd).2.2 x hm x (by simp)
    exact this rfl
  have hmem : ∀ y, y ∈ l' ↔ y ∈ l ∧ y ≠ x := fun y => by
    constructor
    · intro hy
      exact ⟨h2.mem_iff.1 (by simp [hy]), fun e => hnx (e ▸ hy)⟩
    · rintro ⟨hy, hne⟩
      have := h2.mem_iff.2 hy
      simp at this
      exact this.resolve_right hne
  refine ⟨x, l', _, rfl, hxm, ⟨by simp [h.len], (List.nodup_append.1 hnd).1, fun y hy => h.rng y ((hmem y).1 hy).1, fun k hk => ?_⟩, hmem, by have := h2.length_eq; simp at this; omega⟩
  rw [hmem]
  have hxx : ((x.toNat : Nat) : Int) = x := by omega
  by_cases hkx : k = x.toNat
  · subst hkx
    simp [hxx, List.getD, h.len, hk]
  · have h4 : x.toNat ≠ k := fun e => hkx e.symm
    have h5 : (k : Int) ≠ x := by omega
    simp only [h5, ne_eq, not_false_eq_true, and_true]
    rw [← h.is k hk]
    simp [List.getD, List.getElem?_set, h4]
/-- a is within b. -/
def sub (a b : W32) : Prop := ∀ i, a.getLsbD i = true → b.getLsbD i = true
theorem sub.refl (a : W32) : sub a a := fun _ h => h
theorem sub.trans {a b c : W32} (h : sub a b) (k : sub b c) : sub a c := fun i hi => k i (h i hi)
theorem sub.antisymm {a b : W32} (h : sub a b) (k : sub b a) : a = b := by
  apply BitVec.eq_of_getLsbD_eq
  intro i hi
  rw [Bool.eq_iff_iff]
  exact ⟨h i, k i⟩
theorem and_sub_l (a b : W32) : sub (a &&& b) a := fun i h => by simp at h; exact h.1
theorem and_sub_r (a b : W32) : sub (a &&& b) b := fun i h => by simp at h; exact h.2
theorem sub_and {a b c : W32} (h : sub c a) (k : sub c b) : sub c (a &&& b) := fun i hi => by simp [h i hi, k i hi]
theorem sub_or_l (a b : W32) : sub a (a ||| b) := fun i h => by simp [h]
theorem sub_or_r (a b : W32) : sub b (a ||| b) := fun i h => by simp [h]
theorem or_sub {a b c : W32} (h : sub a c) (k : sub b c) : sub (a ||| b) c := fun i hi => by
  simp at hi
  exact hi.elim (h i) (k i)
theorem ne_zero {a : W32} : a ≠ 0#32 ↔ ∃ i, a.getLsbD i = true := by
  constructor
  · intro h
    apply Classical.byContradiction
    intro hn
    apply h
    apply BitVec.eq_of_getLsbD_eq
    intro i hi
    cases ha : a.getLsbD i with
    | false => simp
    | true => exact absurd ⟨i, ha⟩ hn
  · rintro ⟨i, hi⟩ rfl
    simp at hi
/-- What rules make goes with what they are told. -/
theorem rval_mono (r : flow_Rule) {v w : List W32} (h : ∀ j : Int, sub (gi v j) (gi w j)) : sub (rval r v) (rval r w) := by
  unfold rval
  have h1 : sub (gi v r.from_ &&& r.keep ||| gi v r.also) (gi w r.from_ &&& r.keep ||| gi w r.also) :=
    or_sub (sub.trans (sub_and (sub.trans (and_sub_l _ _) (h _)) (and_sub_r _ _)) (sub_or_l _ _)) (sub.trans (h _) (sub_or_r _ _))
  by_cases hv : r.if_ = 0#32 ∨ gi v r.from_ &&& r.if_ ≠ 0#32
  · have hw : r.if_ = 0#32 ∨ gi w r.from_ &&& r.if_ ≠ 0#32 := by
      rcases hv with hv | hv
      · exact .inl hv
      · obtain ⟨i, hi⟩ := ne_zero.1 hv
        refine .inr (ne_zero.2 ⟨i, ?_⟩)
        simp at hi ⊢
        exact ⟨h _ i hi.1, hi.2⟩
    rw [if_pos hv, if_pos hw]
    exact or_sub (sub.trans h1 (sub_or_l _ _)) (sub_or_r _ _)
  · rw [if_neg hv]
    split
    · exact sub.trans h1 (sub_or_l _ _)
    · exact h1
theorem apply_eq (v : List W32) (u : List (List Int)) (b0 : List flow_Rule) (r : flow_Rule) (h0 : 0 ≤ r.to_) (h1 : r.to_ < v.length) :
    flow_solver_apply v u b0 r = some ((gi v r.to_ &&& rval r v) != gi v r.to_, v.set r.to_.toNat (gi v r.to_ &&& rval r v)) := by
  unfold flow_solver_apply flow_meet
  rw [if_pos (decide_eq_true h0), if_pos (decide_eq_true h1), value_eq]
  simp only [bind, Option.bind_some]
  have e : List.getD v r.to_.toNat 0#32 = gi v r.to_ := by unfold gi; rw [if_pos ⟨h0, h1⟩]
  rw [e]
  have e2 : ∀ x : W32, List.getD (List.set v r.to_.toNat x) r.to_.toNat 0#32 = x := fun x => by
    have : r.to_.toNat < v.length := by omega
    simp [List.getD, this]
  rw [e2]
theorem gi_set (v : List W32) (i : Nat) (x : W32) (hi : i < v.length) (j : Int) : gi (v.set i x) j = if j = (i : Int) then x else gi v j := by
  unfold gi
  rw [List.length_set]
  by_cases hj : j = (i : Int)
  · subst hj
    rw [if_pos (by omega), if_pos rfl]
    simp [List.getD, hi]
  · rw [if_neg hj]
    split
    · rename_i h
      have : i ≠ j.toNat := by omega
      simp [List.getD, List.getElem?_set, this]
    · rfl
/-- One more use, where the input is a set. -/
def use1 (n : Nat) (u : List (List Int)) (j k : Int) : List (List Int) := if 0 ≤ j ∧ j < (n : Int) then u.set j.toNat (u.getD j.toNat [] ++ [k]) else u
theorem l9_eq (v : List W32) (x1 : List (List Int)) (x3 : List Int) (x4 : List Bool) (rs : List flow_Rule) (js : List Int) (x7 : List flow_Rule) (x8 x9 x10 : Int) (x11 x12 x13 : W32) (x14 : List flow_Rule) (x15 x16 : Int) (hjs : js.length ≤ 2) :
    ∀ (n i : Nat) (u : List (List Int)), i + n = js.length → u.length = v.length → (∀ j : Nat, (u.getD j []).length + n ≤ 1000000) →
    flow_solver_solve_l9 v x1 u x3 x4 rs js x7 x8 x9 x10 x11 x12 x13 x14 x15 x16 (js.length : Int) (i : Int) = some ((js.drop i).foldl (fun u j => use1 v.length u j (rs.length : Int)) u)
  | 0, i, u, h, hu, hb => by
    rw [flow_solver_solve_l9, if_neg (by simp only [decide_eq_true_eq]; omega), List.drop_eq_nil_of_le (by omega)]
    rfl
  | n + 1, i, u, h, hu, hb => by
    have hi : iAdd (i : Int) 1 = ((i + 1 : Nat) : Int) := by rw [iAdd_eq (by omega) (by omega)]; omega
    have hlt : i < js.length := by omega
    rw [flow_solver_solve_l9, if_pos (decide_eq_true (by omega)), if_pos (decide_eq_true (by omega)), if_pos (decide_eq_true (by omega)), hi]
    have e : List.getD js (Int.toNat (i : Int)) 0 = js[i] := by simp [List.getD, hlt]
    rw [e, List.drop_eq_getElem_cons hlt, List.foldl_cons]
    generalize js[i] = j
    have ih := fun u' hu' hb' => l9_eq v x1 x3 x4 rs js x7 x8 x9 x10 x11 x12 x13 x14 x15 x16 hjs n (i + 1) u' (by omega) hu' hb'
    by_cases h0 : j ≥ 0
    · rw [if_pos (decide_eq_true h0)]
      by_cases h1 : j < (v.length : Int)
      · rw [if_pos (decide_eq_true h1), if_pos (decide_eq_true h0), if_pos (decide_eq_true (by rw [hu]; exact h1))]
        rw [if_pos (Nat.ble_eq_true_of_le (by have := hb j.toNat; simp only [List.length_singleton, reach]; omega))]
        have e1 : use1 v.length u j (rs.length : Int) = u.set j.toNat (u.getD j.toNat [] ++ [(rs.length : Int)]) := if_pos ⟨h0, h1⟩
        rw [e1]
        refine ih _ (by simp [hu]) fun k => ?_
        have hk := hb k
        by_cases hkj : j.toNat = k
        · subst hkj
          have : j.toNat < u.length := by omega
          simp [List.getD, this] at hk ⊢
          omega
        · have : (u.set j.toNat (u.getD j.toNat [] ++ [(rs.length : Int)])).getD k [] = u.getD k [] := by simp [List.getD, List.getElem?_set, hkj]
          rw [this]; omega
      · rw [if_neg (by simpa using h1)]
        have e1 : use1 v.length u j (rs.length : Int) = u := if_neg (by omega)
        rw [e1]
        exact ih u hu fun k => by have := hb k; omega
    · rw [if_neg (by simpa using h0)]
      have e1 : use1 v.length u j (rs.length : Int) = u := if_neg (by omega)
      rw [e1]
      exact ih u hu fun k => by have := hb k; omega
/-- How many bits a set has. -/
def pop (a : W32) : Nat := ((List.range 32).filter fun i => a.getLsbD i).length
theorem filter_le {p q : Nat → Bool} (l : List Nat) (h : ∀ i, p i = true → q i = true) : (l.filter p).length ≤ (l.filter q).length := by
  induction l with
  | nil => simp
  | cons x l ih =>
    simp only [List.filter_cons]
    cases hp : p x with
    | true => rw [h x hp]; simpa using ih
    | false => cases q x <;> simp <;> omega
theorem filter_lt {p q : Nat → Bool} (l : List Nat) (h : ∀ i, p i = true → q i = true) {x : Nat} (hx : x ∈ l) (h1 : p x = false) (h2 : q x = true) : (l.filter p).length < (l.filter q).length := by
  induction l with
  | nil => cases hx
  | cons y l ih =>
    simp only [List.filter_cons]
    rcases List.mem_cons.1 hx with rfl | hx
    · rw [h1, h2]
      have := filter_le l h
      simp; omega
    · have ih := ih hx
      cases hp : p y with
      | true => rw [h y hp]; simpa using ih
      | false => cases q y <;> simp <;> omega
theorem pop_le {a b : W32} (h : sub a b) : pop a ≤ pop b := filter_le _ h
theorem pop_lt {a b : W32} (h : sub a b) (hn : a ≠ b) : pop a < pop b := by
  have : ∃ i, i < 32 ∧ a.getLsbD i = false ∧ b.getLsbD i = true := by
    apply Classical.byContradiction
    intro hno
    apply hn
    apply BitVec.eq_of_getLsbD_eq
    intro i hi
    cases ha : a.getLsbD i with
    | true => rw [h i ha]
    | false =>
      cases hb : b.getLsbD i with
      | false => rfl
      | true => exact absurd ⟨i, hi, ha, hb⟩ hno
  obtain ⟨i, hi, h1, h2⟩ := this
  exact filter_lt _ h (List.mem_range.2 hi) h1 h2
theorem pop_32 (a : W32) : pop a ≤ 32 := Nat.le_trans (List.length_filter_le _ _) (by simp)
def pops (v : List W32) : Nat := (v.map pop).sum
theorem pops_set : ∀ (v : List W32) (i : Nat) (x : W32) (h : i < v.length), pops (v.set i x) + pop v[i] = pops v + pop x
  | a :: v, 0, x, h => by simp [pops]; omega
  | a :: v, i + 1, x, h => by
    have := pops_set v i x (by simpa using h)
    simp [pops] at this ⊢
    omega
theorem pops_le : ∀ v : List W32, pops v ≤ 32 * v.length
  | [] => by simp [pops]
  | a :: v => by
    have h1 := pops_le v
    have h2 := pop_32 a
    simp [pops] at h1 ⊢
    omega
/-- Sets that keep the rules from above. -/
def Keeps (l : List flow_Rule) (n : Nat) (w : List W32) : Prop := ∀ r ∈ l, 0 ≤ r.to_ → r.to_ < (n : Int) → sub (gi w r.to_) (rval r w)
theorem gi_get {v : List W32} {j : Int} (h0 : 0 ≤ j) (h1 : j < v.length) : v[j.toNat]'(by omega) = gi v j := by
  unfold gi
  rw [if_pos ⟨h0, h1⟩]
  simp [List.getD, show j.toNat < v.length by omega]
/-- One set less: what is so of the sets then. -/
theorem cut_one {l : List flow_Rule} {v : List W32} {r : flow_Rule} {x : W32} (hr : r ∈ l) (h0 : 0 ≤ r.to_) (h1 : r.to_ < v.length) (hx : x = rval r v &&& gi v r.to_) :
    (∀ j, sub (gi (v.set r.to_.toNat x) j) (gi v j)) ∧ (∀ w, Keeps l v.length w → (∀ j, sub (gi w j) (gi v j)) → ∀ j, sub (gi w j) (gi (v.set r.to_.toNat x) j)) ∧ (x ≠ gi v r.to_ → pops (v.set r.to_.toNat x) < pops v) := by
  have hlt : r.to_.toNat < v.length := by omega
  have hcast : ((r.to_.toNat : Nat) : Int) = r.to_ := by omega
  have hg : ∀ j, gi (v.set r.to_.toNat x) j = if j = r.to_ then x else gi v j := fun j => by rw [gi_set v _ x hlt j, hcast]
  have hsub : sub x (gi v r.to_) := by rw [hx]; exact and_sub_r _ _
  refine ⟨fun j => ?_, fun w hw hwv j => ?_, fun hne => ?_⟩
  · rw [hg]
    split
    · rename_i e; rw [e]; exact hsub
    · exact sub.refl _
  · rw [hg]
    split
    · rename_i e
      rw [e, hx]
      exact sub_and (sub.trans (hw r hr h0 h1) (rval_mono r hwv)) (hwv _)
    · exact hwv j
  · have h2 := pops_set v r.to_.toNat x hlt
    have h3 : v[r.to_.toNat] = gi v r.to_ := gi_get h0 h1
    have h4 := pop_lt hsub hne
    rw [h3] at h2
    omega
/-- The greatest sets that keep the rules, within some. -/
structure Gfp (l : List flow_Rule) (v v' : List W32) : Prop where
  len : v'.length = v.length
  sub : ∀ j, sub (gi v' j) (gi v j)
  best : ∀ w, Keeps l v.length w → (∀ j, Bm.GoYtdifolgbppffpaa.sub (gi w j) (gi v j)) → ∀ j, Bm.GoYtdifolgbppffpaa.sub (gi w j) (gi v' j)
  keeps : Keeps l v.length v'
theorem set_take (x : List W32) (i m : Nat) (top : W32) (h : i + (m + 1) = x.length) : (x.set i top).take (i + 1) ++ List.replicate m top = x.take i ++ List.replicate (m + 1) top := by
  have h1 : (x.set i top).take (i + 1) = x.take i ++ [top] := by
    apply List.ext_getElem?
    intro k
    by_cases hk : k < i
    · rw [List.getElem?_take, if_pos (by omega), List.getElem?_append_left (by simp; omega), List.getElem?_take, if_pos hk, List.getElem?_set, if_neg (by omega)]
    · by_cases hk2 : k = i
      · subst hk2
        rw [List.getElem?_take, if_pos (by omega), List.getElem?_append_right (by simp; omega)]
        simp [show k < x.length by omega, Nat.min_eq_left (show k ≤ x.length by omega)]
      · rw [List.getElem?_take, if_neg (by omega)]
        rw [List.getElem?_eq_none (by simp; omega)]
  rw [h1, List.replicate_succ]
  simp
theorem fill_prog (n : Nat) (hn : n ≤ 65536) (top : W32) : ∀ (m i : Nat) (x : List W32), i + m = n → x.length = n → flow_start_l5 x top (n : Int) (i : Int) = some (x.take i ++ List.replicate m top)
  | 0, i, x, h, hx => by
    rw [flow_start_l5, if_neg (by simp only [decide_eq_true_eq]; omega), List.take_of_length_le (by omega)]
    simp
  | m + 1, i, x, h, hx => by
    have hi : iAdd (i : Int) 1 = ((i + 1 : Nat) : Int) := by rw [iAdd_eq (by omega) (by omega)]; omega
    rw [flow_start_l5, if_pos (decide_eq_true (by omega)), if_pos (decide_eq_true (by omega)), if_pos (decide_eq_true (by omega)), hi, fill_prog n hn top m (i + 1) _ (by omega) (by simp [hx])]
    rw [show (Int.toNat (i : Int)) = i by omega, set_take x i m top (by omega)]
theorem start_eq (n : Int) (top : W32) : flow_start n top = some (if 0 ≤ n ∧ n ≤ 65536 then List.replicate n.toNat top else []) := by
  unfold flow_start
  by_cases h0 : n < 0
  · rw [if_pos (decide_eq_true h0), if_neg (by omega)]
  · rw [if_neg (by simpa using h0)]
    by_cases h1 : n > 65536
    · rw [if_pos (decide_eq_true h1), if_neg (by omega)]
    · rw [if_neg (by simpa using h1), if_pos (decide_eq_true (by omega)), if_pos (decide_eq_true (by simp only [reach]; omega)), if_pos (by omega)]
      have := fill_prog n.toNat (by omega) top n.toNat 0 (List.replicate n.toNat 0#32) (by omega) (by simp)
      have h3 : flow_start_l5 (List.replicate n.toNat 0#32) top ((n.toNat : Nat) : Int) 0 = some (List.replicate n.toNat top) := by simpa using this
      rw [List.length_replicate, h3]
      rfl
/-- A rule holds. -/
def Holds (v : List W32) (r : flow_Rule) : Prop := sub (gi v r.to_) (rval r v)
/-- One of a rule's inputs waits. -/
def Waits (l : List Int) (r : flow_Rule) : Prop := r.from_ ∈ l ∨ r.also ∈ l
theorem rval_congr {r : flow_Rule} {v w : List W32} (h1 : gi v r.from_ = gi w r.from_) (h2 : gi v r.also = gi w r.also) : rval r v = rval r w := by unfold rval; rw [h1, h2]
theorem holds_after {v : List W32} {t : Int} {x : W32} (h0 : 0 ≤ t) (h1 : t < v.length) (hx : sub x (gi v t)) {r : flow_Rule} (hr : Holds v r) (hf : r.from_ ≠ t) (ha : r.also ≠ t) : Holds (v.set t.toNat x) r := by
  have hlt : t.toNat < v.length := by omega
  have hcast : ((t.toNat : Nat) : Int) = t := by omega
  have hg : ∀ j, gi (v.set t.toNat x) j = if j = t then x else gi v j := fun j => by rw [gi_set v _ x hlt j, hcast]
  unfold Holds at hr ⊢
  rw [rval_congr (v := v.set t.toNat x) (w := v) (by rw [hg, if_neg hf]) (by rw [hg, if_neg ha]), hg]
  split
  · rename_i e; rw [e] at hr; exact hx.trans hr
  · exact hr
/-- A rule is done: it holds then, or waits; so does what held, or waited. -/
theorem done_step {v : List W32} {r0 : flow_Rule} {l l' : List Int} (h0 : 0 ≤ r0.to_) (h1 : r0.to_ < v.length) (hl : ∀ y, y ∈ l → y ∈ l') (ht : (gi v r0.to_ &&& rval r0 v) ≠ gi v r0.to_ → r0.to_ ∈ l') :
    (∀ r, Holds v r ∨ Waits l r → Holds (v.set r0.to_.toNat (gi v r0.to_ &&& rval r0 v)) r ∨ Waits l' r) ∧ (Holds (v.set r0.to_.toNat (gi v r0.to_ &&& rval r0 v)) r0 ∨ Waits l' r0) := by
  have hlt : r0.to_.toNat < v.length := by omega
  have hcast : ((r0.to_.toNat : Nat) : Int) = r0.to_ := by omega
  by_cases hc : (gi v r0.to_ &&& rval r0 v) = gi v r0.to_
  · have e : v.set r0.to_.toNat (gi v r0.to_ &&& rval r0 v) = v := by
      rw [hc]
      have := gi_get h0 h1
      rw [← this]
      simp
    rw [e]
    refine ⟨fun r hr => hr.imp id fun hw => hw.imp (hl _) (hl _), .inl ?_⟩
    show sub (gi v r0.to_) (rval r0 v)
    rw [← hc]
    exact and_sub_r _ _
  · have ht := ht hc
    have key : ∀ r, (r.from_ = r0.to_ ∨ r.also = r0.to_) → Waits l' r := fun r h => h.elim (fun e => .inl (e ▸ ht)) fun e => .inr (e ▸ ht)
    refine ⟨fun r hr => ?_, ?_⟩
    · by_cases hin : r.from_ = r0.to_ ∨ r.also = r0.to_
      · exact .inr (key r hin)
      · rcases hr with hr | hr
        · exact .inl (holds_after h0 h1 (and_sub_l _ _) hr (fun e => hin (.inl e)) fun e => hin (.inr e))
        · exact .inr (hr.imp (hl _) (hl _))
    · by_cases hin : r0.from_ = r0.to_ ∨ r0.also = r0.to_
      · exact .inr (key r0 hin)
      · refine .inl ?_
        have hg : ∀ j, gi (v.set r0.to_.toNat (gi v r0.to_ &&& rval r0 v)) j = if j = r0.to_ then (gi v r0.to_ &&& rval r0 v) else gi v j := fun j => by rw [gi_set v _ _ hlt j, hcast]
        show sub (gi _ r0.to_) (rval r0 _)
        rw [rval_congr (v := v.set r0.to_.toNat (gi v r0.to_ &&& rval r0 v)) (w := v) (by rw [hg, if_neg fun e => hin (.inl e)]) (by rw [hg, if_neg fun e => hin (.inr e)]), hg, if_pos rfl]
        exact and_sub_r _ _
theorem l25_eq (n : Nat) (hn : n ≤ 65536) (x1 : List (List Int)) (us : List (List Int)) (rs : List flow_Rule) (x6 : List flow_Rule) (i0 : Nat) (hrs : ∀ r ∈ rs, 0 ≤ r.to_ ∧ r.to_ < (n : Int)) (hus : ∀ k ∈ us.getD i0 [], ∃ q : Nat, k = (q : Int) ∧ q < rs.length) (hlen : (us.getD i0 []).length ≤ 1000000) :
    ∀ (m i : Nat) (v : List W32) (l : List Int) (tb : List Bool), i + m = (us.getD i0 []).length → v.length = n → WK n l tb →
    ∃ v' l' tb', flow_solver_solve_l25 v x1 us l tb rs x6 i0 (((us.getD i0 []).length : Nat) : Int) (i : Int) = some (v', l', tb') ∧ v'.length = n ∧ WK n l' tb' ∧ (∀ j, sub (gi v' j) (gi v j)) ∧ (∀ w, Keeps rs n w → (∀ j, sub (gi w j) (gi v j)) → ∀ j, sub (gi w j) (gi v' j)) ∧
      2 * pops v' + l'.length ≤ 2 * pops v + l.length ∧ (∀ r, Holds v r ∨ Waits l r → Holds v' r ∨ Waits l' r) ∧ (∀ (q : Nat) (r : flow_Rule), rs[q]? = some r → (q : Int) ∈ (us.getD i0 []).drop i → Holds v' r ∨ Waits l' r)
  | 0, i, v, l, tb, h, hv, hw => by
    rw [flow_solver_solve_l25, if_neg (by simp only [decide_eq_true_eq]; omega)]
    refine ⟨v, l, tb, rfl, hv, hw, fun j => sub.refl _, fun w _ hh => hh, Nat.le_refl _, fun r hr => hr, fun q r _ hq => ?_⟩
    rw [List.drop_eq_nil_of_le (by omega)] at hq
    cases hq
  | m + 1, i, v, l, tb, h, hv, hw => by
    have hi : iAdd (i : Int) 1 = ((i + 1 : Nat) : Int) := by rw [iAdd_eq (by omega) (by omega)]; omega
    have hlt : i < (us.getD i0 []).length := by omega
    rw [flow_solver_solve_l25, if_pos (decide_eq_true (by omega)), if_pos (decide_eq_true (by omega)), if_pos (decide_eq_true (by omega)), hi]
    have e : List.getD (us.getD i0 []) (Int.toNat (i : Int)) 0 = (us.getD i0 [])[i] := by
      rw [Int.toNat_natCast]
      exact (List.getD_eq_getElem?_getD ..).trans (by rw [List.getElem?_eq_getElem hlt]; rfl)
    obtain ⟨q, hq1, hq2⟩ := hus _ (List.getElem_mem hlt)
    have hdrop : (us.getD i0 []).drop i = (us.getD i0 [])[i] :: (us.getD i0 []).drop (i + 1) := List.drop_eq_getElem_cons hlt
    rw [hdrop, e, hq1, if_pos (decide_eq_true (by omega)), if_pos (decide_eq_true (by omega))]
    have er : List.getD rs (Int.toNat (q : Int)) d_flow_Rule = rs[q] := by simp [List.getD, hq2]
    rw [er]
    obtain ⟨r0, r1⟩ := hrs _ (List.getElem_mem hq2)
    have r1' : rs[q].to_ < (v.length : Int) := by rw [hv]; exact r1
    rw [apply_eq v us x6 rs[q] r0 r1']
    simp only [bind, Option.bind_some]
    have hx : rval rs[q] v &&& gi v rs[q].to_ = gi v rs[q].to_ &&& rval rs[q] v := BitVec.and_comm _ _
    obtain ⟨c1, c2, c3⟩ := cut_one (l := rs) (x := gi v rs[q].to_ &&& rval rs[q] v) (List.getElem_mem hq2) r0 r1' hx.symm
    have hlen2 : (v.set rs[q].to_.toNat (gi v rs[q].to_ &&& rval rs[q] v)).length = n := by simp [hv]
    have hrq : rs[q]? = some rs[q] := List.getElem?_eq_getElem hq2
    by_cases hc : (gi v rs[q].to_ &&& rval rs[q] v) = gi v rs[q].to_
    · rw [if_neg (by simpa using hc)]
      obtain ⟨d1, d2⟩ := done_step (l := l) (l' := l) r0 r1' (fun _ h => h) (fun hh => absurd hc hh)
      have hpe : v.set rs[q].to_.toNat (gi v rs[q].to_ &&& rval rs[q] v) = v := by
        rw [hc]
        have := gi_get r0 r1'
        rw [← this]; simp
      rw [hpe] at d1 d2 ⊢
      obtain ⟨v', l', tb', q1, q2, q3, q4, q5, q6, q7, q8⟩ := l25_eq n hn x1 us rs x6 i0 hrs hus hlen m (i + 1) v l tb (by omega) hv hw
      refine ⟨v', l', tb', q1, q2, q3, q4, q5, q6, q7, fun k r hk hm => ?_⟩
      rcases List.mem_cons.1 hm with hm | hm
      · have : k = q := by omega
        subst this
        rw [hrq] at hk
        cases hk
        exact q7 _ d2
      · exact q8 k r hk hm
    · rw [if_pos (by simpa using hc)]
      obtain ⟨l1, tb1, a1, a2, a3, a4⟩ := add_eq hn hw r0 r1
      rw [a1]
      simp only [Option.bind_some]
      obtain ⟨d1, d2⟩ := done_step (l := l) (l' := l1) r0 r1' (fun y hy => (a3 y).2 (.inl hy)) (fun _ => (a3 _).2 (.inr rfl))
      have hp := c3 hc
      obtain ⟨v', l', tb', q1, q2, q3, q4, q5, q6, q7, q8⟩ := l25_eq n hn x1 us rs x6 i0 hrs hus hlen m (i + 1) _ l1 tb1 (by omega) hlen2 a2
      refine ⟨v', l', tb', q1, q2, q3, fun j => (q4 j).trans (c1 j), fun w hk hwv => q5 w hk (c2 w (hv ▸ hk) hwv), by omega, fun r hr => q7 r (d1 r hr), fun k r hk hm => ?_⟩
      rcases List.mem_cons.1 hm with hm | hm
      · have : k = q := by omega
        subst this
        rw [hrq] at hk
        cases hk
        exact q7 _ d2
      · exact q8 k r hk hm
theorem l23_eq (n : Nat) (hn : n ≤ 65536) (x1 : List (List Int)) (us : List (List Int)) (rs : List flow_Rule) (x6 : List flow_Rule) (hrs : ∀ r ∈ rs, 0 ≤ r.to_ ∧ r.to_ < (n : Int)) (husl : us.length = n) (hus : ∀ i0 : Nat, ∀ k ∈ us.getD i0 [], ∃ q : Nat, k = (q : Int) ∧ q < rs.length) (hlen : ∀ i0 : Nat, (us.getD i0 []).length ≤ 1000000)
    (huse : ∀ (q : Nat) (r : flow_Rule) (j : Int), rs[q]? = some r → (r.from_ = j ∨ r.also = j) → 0 ≤ j → j < (n : Int) → (q : Int) ∈ us.getD j.toNat []) :
    ∀ (M : Nat) (v : List W32) (l : List Int) (tb : List Bool), 2 * pops v + l.length ≤ M → v.length = n → WK n l tb → (∀ r ∈ rs, Holds v r ∨ Waits l r) →
    ∃ v', flow_solver_solve_l23 v x1 us l tb rs x6 = some v' ∧ v'.length = n ∧ (∀ j, sub (gi v' j) (gi v j)) ∧ (∀ w, Keeps rs n w → (∀ j, sub (gi w j) (gi v j)) → ∀ j, sub (gi w j) (gi v' j)) ∧ ∀ r ∈ rs, Holds v' r
  | M, v, l, tb, hM, hv, hw, hall => by
    rw [flow_solver_solve_l23]
    unfold flow_todo_Len
    simp only [bind, Option.bind_some]
    by_cases h0 : 0 < l.length
    · rw [if_pos (decide_eq_true (by omega))]
      obtain ⟨i, l1, tb1, a1, a2, a3, a4, a5⟩ := next_eq hn hw h0
      have hir := hw.rng i a2
      rw [a1]
      simp only [Option.bind_some]
      rw [if_pos (decide_eq_true hir.1), if_pos (decide_eq_true (by rw [husl]; exact hir.2))]
      obtain ⟨v', l', tb', q1, q2, q3, q4, q5, q6, q7, q8⟩ := l25_eq n hn x1 us rs x6 i.toNat hrs (hus _) (hlen _) (us.getD i.toNat []).length 0 v l1 tb1 (Nat.zero_add _) hv a3
      rw [show ((0 : Nat) : Int) = 0 from rfl] at q1
      rw [q1]
      simp only [Option.bind_some]
      have hall' : ∀ r ∈ rs, Holds v' r ∨ Waits l' r := by
        intro r hr
        obtain ⟨q, hq⟩ := List.getElem?_of_mem hr
        by_cases hin : r.from_ = i ∨ r.also = i
        · exact q8 q r hq (by rw [List.drop_zero]; exact huse q r i hq hin hir.1 hir.2)
        · refine q7 r ((hall r hr).imp id fun hwt => ?_)
          rcases hwt with hwt | hwt
          · exact .inl ((a4 _).2 ⟨hwt, fun e => hin (.inl e)⟩)
          · exact .inr ((a4 _).2 ⟨hwt, fun e => hin (.inr e)⟩)
      match M, hM with
      | 0, hM => omega
      | M + 1, hM =>
        obtain ⟨v2, b1, b2, b3, b4, b5⟩ := l23_eq n hn x1 us rs x6 hrs husl hus hlen huse M v' l' tb' (by omega) q2 q3 hall'
        exact ⟨v2, b1, b2, fun j => (b3 j).trans (q4 j), fun w hk hwv => b4 w hk (q5 w hk hwv), b5⟩
    · rw [if_neg (by simp only [decide_eq_true_eq]; omega)]
      refine ⟨v, rfl, hv, fun j => sub.refl _, fun w _ hh => hh, fun r hr => (hall r hr).resolve_right fun hwt => ?_⟩
      have : l = [] := List.length_eq_zero_iff.1 (by omega)
      subst this
      rcases hwt with h | h <;> cases h
theorem l19_eq (n : Nat) (hn : n ≤ 65536) (v : List W32) (x1 x2 : List (List Int)) (x5 x6 : List flow_Rule) : ∀ (m i : Nat) (l : List Int) (tb : List Bool), i + m = n → WK n l tb → 
    ∃ l' tb', flow_solver_solve_l19 v x1 x2 l tb x5 x6 (n : Int) (i : Int) = some (l', tb') ∧ WK n l' tb' ∧ (∀ x, x ∈ l' ↔ x ∈ l ∨ ((i : Int) ≤ x ∧ x < (n : Int)))
  | 0, i, l, tb, h, hw => by
    rw [flow_solver_solve_l19, if_neg (by simp only [decide_eq_true_eq]; omega)]
    exact ⟨l, tb, rfl, hw, fun x => ⟨.inl, fun hx => hx.resolve_right (by omega)⟩⟩
  | m + 1, i, l, tb, h, hw => by
    have hi : iAdd (i : Int) 1 = ((i + 1 : Nat) : Int) := by rw [iAdd_eq (by omega) (by omega)]; omega
    rw [flow_solver_solve_l19, if_pos (decide_eq_true (by omega)), hi]
    obtain ⟨l1, tb1, a1, a2, a3, a4⟩ := add_eq hn hw (i := (i : Int)) (by omega) (by omega)
    rw [a1]
    simp only [bind, Option.bind_some]
    obtain ⟨l', tb', b1, b2, b3⟩ := l19_eq n hn v x1 x2 x5 x6 m (i + 1) l1 tb1 (by omega) a2
    refine ⟨l', tb', b1, b2, fun x => ?_⟩
    rw [b3, a3]
    constructor
    · rintro ((h | h) | h)
      · exact .inl h
      · exact .inr (by omega)
      · exact .inr (by omega)
    · rintro (h | h)
      · exact .inl (.inl h)
      · by_cases hx : x = (i : Int)
        · exact .inl (.inr hx)
        · exact .inr (by omega)
theorem use1_get (n : Nat) (us : List (List Int)) (hl : us.length = n) (j k : Int) (i0 : Nat) : (use1 n us j k).getD i0 [] = if 0 ≤ j ∧ j < (n : Int) ∧ j.toNat = i0 then us.getD i0 [] ++ [k] else us.getD i0 [] := by
  unfold use1
  by_cases h : 0 ≤ j ∧ j < (n : Int)
  · rw [if_pos h]
    by_cases hi : j.toNat = i0
    · subst hi
      rw [if_pos ⟨h.1, h.2, rfl⟩]
      have : j.toNat < us.length := by omega
      simp [List.getD, this]
    · rw [if_neg (by rintro ⟨_, _, e⟩; exact hi e)]
      simp [List.getD, List.getElem?_set, hi]
  · rw [if_neg h, if_neg (by rintro ⟨a, b, _⟩; exact h ⟨a, b⟩)]
theorem use1_len (n : Nat) (us : List (List Int)) (j k : Int) : (use1 n us j k).length = us.length := by
  unfold use1
  split <;> simp
/-- A rule whose inputs are no sets makes always the same. -/
theorem rval_const {r : flow_Rule} {v w : List W32} (hl : v.length = w.length) (h : ¬ ((0 ≤ r.from_ ∧ r.from_ < (v.length : Int)) ∨ (0 ≤ r.also ∧ r.also < (v.length : Int)))) : rval r v = rval r w := by
  refine rval_congr ?_ ?_
  · unfold gi
    rw [if_neg fun hh => h (.inl hh), if_neg fun hh => h (.inl (by rw [hl]; exact hh))]
  · unfold gi
    rw [if_neg fun hh => h (.inr hh), if_neg fun hh => h (.inr (by rw [hl]; exact hh))]
/-- What is so in the first pass, behind some rules. -/
structure First (n : Nat) (b : List flow_Rule) (v0 v : List W32) (us : List (List Int)) (l : List Int) (tb : List Bool) (rs : List flow_Rule) (i : Nat) : Prop where
  vl : v.length = n
  ul : us.length = n
  wk : WK n l tb
  isr : ∀ r, r ∈ rs ↔ r ∈ b.take i ∧ 0 ≤ r.to_ ∧ r.to_ < (n : Int)
  rl : rs.length ≤ i
  isu : ∀ i0 : Nat, ∀ k ∈ us.getD i0 [], ∃ q : Nat, k = (q : Int) ∧ q < rs.length
  un : ∀ i0 : Nat, (us.getD i0 []).length ≤ 2 * i
  use : ∀ (q : Nat) (r : flow_Rule) (j : Int), rs[q]? = some r → (r.from_ = j ∨ r.also = j) → 0 ≤ j → j < (n : Int) → (q : Int) ∈ us.getD j.toNat []
  down : ∀ j, sub (gi v j) (gi v0 j)
  best : ∀ w, Keeps b n w → (∀ j, sub (gi w j) (gi v0 j)) → ∀ j, sub (gi w j) (gi v j)
  hold : ∀ r ∈ rs, ((0 ≤ r.from_ ∧ r.from_ < (n : Int)) ∨ (0 ≤ r.also ∧ r.also < (n : Int))) ∨ Holds v r
theorem take_one {α : Type} {b : List α} {i : Nat} (h : i < b.length) (x : α) : x ∈ b.take (i + 1) ↔ x ∈ b.take i ∨ x = b[i] := by
  rw [← List.take_append_getElem h, List.mem_append, List.mem_singleton]
theorem use2_get (n : Nat) (us : List (List Int)) (hl : us.length = n) (j j' k : Int) (i0 : Nat) (x : Int) : x ∈ (use1 n (use1 n us j k) j' k).getD i0 [] ↔ x ∈ us.getD i0 [] ∨ (x = k ∧ ((0 ≤ j ∧ j < (n : Int) ∧ j.toNat = i0) ∨ (0 ≤ j' ∧ j' < (n : Int) ∧ j'.toNat = i0))) := by
  rw [use1_get n _ ((use1_len n us j k).trans hl), use1_get n us hl]
  by_cases h1 : 0 ≤ j ∧ j < (n : Int) ∧ j.toNat = i0 <;> by_cases h2 : 0 ≤ j' ∧ j' < (n : Int) ∧ j'.toNat = i0 <;> simp [h1, h2, or_assoc]
theorem use2_len (n : Nat) (us : List (List Int)) (hl : us.length = n) (j j' k : Int) (i0 : Nat) : ((use1 n (use1 n us j k) j' k).getD i0 []).length ≤ (us.getD i0 []).length + 2 := by
  rw [use1_get n _ ((use1_len n us j k).trans hl), use1_get n us hl]
  by_cases h1 : 0 ≤ j ∧ j < (n : Int) ∧ j.toNat = i0 <;> by_cases h2 : 0 ≤ j' ∧ j' < (n : Int) ∧ j'.toNat = i0 <;> simp [h1, h2]
theorem get_snoc {α : Type} {l : List α} {x r : α} {q : Nat} (h : (l ++ [x])[q]? = some r) : l[q]? = some r ∨ (q = l.length ∧ r = x) := by
  rw [List.getElem?_append] at h
  split at h
  · exact .inl h
  · refine .inr ?_
    rename_i hq
    have h2 : q - l.length = 0 := by
      rcases Nat.eq_zero_or_pos (q - l.length) with h3 | h3
      · exact h3
      · rw [List.getElem?_eq_none (by simp; omega)] at h; cases h
    rw [h2] at h
    refine ⟨by omega, ?_⟩
    simpa using h.symm
theorem First.next {n : Nat} {b : List flow_Rule} {v0 v : List W32} {us : List (List Int)} {l : List Int} {tb : List Bool} {rs : List flow_Rule} {i : Nat} (h : First n b v0 v us l tb rs i) (hi : i < b.length) (hn : ¬ (0 ≤ b[i].to_ ∧ b[i].to_ < (n : Int))) : First n b v0 v us l tb rs (i + 1) where
  vl := h.vl
  ul := h.ul
  wk := h.wk
  isr := fun r => by
    rw [h.isr, take_one hi]
    constructor
    · rintro ⟨h1, h2⟩; exact ⟨.inl h1, h2⟩
    · rintro ⟨h1 | h1, h2⟩
      · exact ⟨h1, h2⟩
      · subst h1; exact absurd h2 hn
  rl := by have := h.rl; omega
  isu := h.isu
  un := fun i0 => by have := h.un i0; omega
  use := h.use
  down := h.down
  best := h.best
  hold := h.hold
theorem First.rule {n : Nat} {b : List flow_Rule} {v0 v : List W32} {us : List (List Int)} {l l' : List Int} {tb tb' : List Bool} {rs : List flow_Rule} {i : Nat} (h : First n b v0 v us l tb rs i) (hi : i < b.length) (h0 : 0 ≤ b[i].to_) (h1 : b[i].to_ < (n : Int)) (hw : WK n l' tb') :
    First n b v0 (v.set b[i].to_.toNat (gi v b[i].to_ &&& rval b[i] v)) (use1 n (use1 n us b[i].from_ (rs.length : Int)) b[i].also (rs.length : Int)) l' tb' (rs ++ [b[i]]) (i + 1) := by
  have h1' : b[i].to_ < (v.length : Int) := by rw [h.vl]; exact h1
  have hlt : b[i].to_.toNat < v.length := by omega
  obtain ⟨c1, c2, c3⟩ := cut_one (l := b) (x := gi v b[i].to_ &&& rval b[i] v) (List.getElem_mem hi) h0 h1' (BitVec.and_comm _ _)
  constructor
  · rw [List.length_set, h.vl]
  · rw [use1_len, use1_len, h.ul]
  · exact hw
  · intro r
    rw [List.mem_append, List.mem_singleton, h.isr, take_one hi]
    constructor
    · rintro (⟨h2, h3⟩ | rfl)
      · exact ⟨.inl h2, h3⟩
      · exact ⟨.inr rfl, h0, h1⟩
    · rintro ⟨h2 | h2, h3⟩
      · exact .inl ⟨h2, h3⟩
      · exact .inr h2
  · have := h.rl
    simp; omega
  · intro i0 k hk
    rcases (use2_get n us h.ul _ _ _ i0 k).1 hk with hk | ⟨rfl, _⟩
    · obtain ⟨q, h2, h3⟩ := h.isu i0 k hk
      exact ⟨q, h2, by simp; omega⟩
    · exact ⟨rs.length, rfl, by simp⟩
  · intro i0
    have h2 := use2_len n us h.ul b[i].from_ b[i].also (rs.length : Int) i0
    have h3 := h.un i0
    omega
  · intro q r j hq hj hj0 hj1
    rw [use2_get n us h.ul]
    rcases get_snoc hq with hq | ⟨rfl, rfl⟩
    · exact .inl (h.use q r j hq hj hj0 hj1)
    · refine .inr ⟨rfl, ?_⟩
      rcases hj with hj | hj
      · exact .inl (by rw [hj]; exact ⟨hj0, hj1, rfl⟩)
      · exact .inr (by rw [hj]; exact ⟨hj0, hj1, rfl⟩)
  · exact fun j => (c1 j).trans (h.down j)
  · exact fun w hk hwv => c2 w (h.vl ▸ hk) (h.best w hk hwv)
  · intro r hr
    by_cases hin : (0 ≤ r.from_ ∧ r.from_ < (n : Int)) ∨ (0 ≤ r.also ∧ r.also < (n : Int))
    · exact .inl hin
    · refine .inr ?_
      have e : rval r (v.set b[i].to_.toNat (gi v b[i].to_ &&& rval b[i] v)) = rval r v := rval_const (by simp) (by rw [List.length_set, h.vl]; exact hin)
      show sub _ _
      rw [e]
      rcases List.mem_append.1 hr with hr | hr
      · exact (c1 r.to_).trans ((h.hold r hr).resolve_left hin)
      · rw [List.mem_singleton] at hr
        subst hr
        have hcast : ((b[i].to_.toNat : Nat) : Int) = b[i].to_ := by omega
        have hg := gi_set v _ (gi v b[i].to_ &&& rval b[i] v) hlt b[i].to_
        rw [hg, hcast, if_pos rfl]
        exact and_sub_r _ _
theorem l5_eq (n : Nat) (hn : n ≤ 65536) (x1 : List (List Int)) (b : List flow_Rule) (hb : b.length ≤ 65536) (v0 : List W32) : ∀ (m i : Nat) (v : List W32) (us : List (List Int)) (l : List Int) (tb : List Bool) (rs : List flow_Rule), i + m = b.length → First n b v0 v us l tb rs i →
    ∃ v' us' l' tb' rs', flow_solver_solve_l5 v x1 us l tb rs b b (b.length : Int) (i : Int) = some (v', us', l', tb', rs') ∧ First n b v0 v' us' l' tb' rs' b.length
  | 0, i, v, us, l, tb, rs, h, hf => by
    rw [flow_solver_solve_l5, if_neg (by simp only [decide_eq_true_eq]; omega)]
    have : i = b.length := by omega
    subst this
    exact ⟨v, us, l, tb, rs, rfl, hf⟩
  | m + 1, i, v, us, l, tb, rs, h, hf => by
    have hi : iAdd (i : Int) 1 = ((i + 1 : Nat) : Int) := by rw [iAdd_eq (by omega) (by omega)]; omega
    have hlt : i < b.length := by omega
    rw [flow_solver_solve_l5, if_pos (decide_eq_true (by omega)), if_pos (decide_eq_true (by omega)), if_pos (decide_eq_true (by omega)), hi]
    have e : List.getD b (Int.toNat (i : Int)) d_flow_Rule = b[i] := by simp [List.getD, hlt]
    rw [e]
    by_cases h0 : b[i].to_ < 0
    · rw [if_pos (decide_eq_true h0)]
      exact l5_eq n hn x1 b hb v0 m (i + 1) v us l tb rs (by omega) (hf.next hlt (by omega))
    · rw [if_neg (by simpa using h0)]
      by_cases h1 : b[i].to_ ≥ (v.length : Int)
      · rw [if_pos (decide_eq_true h1)]
        exact l5_eq n hn x1 b hb v0 m (i + 1) v us l tb rs (by omega) (hf.next hlt (by rw [hf.vl] at h1; omega))
      · rw [if_neg (by simpa using h1)]
        have h2 := l9_eq v x1 l tb rs [b[i].from_, b[i].also] b b[i].to_ b[i].from_ b[i].also b[i].keep b[i].if_ b[i].then_ b (b.length : Int) (i : Int) (by simp) 2 0 us rfl (by rw [hf.ul, hf.vl]) (fun j => by have := hf.un j; omega)
        rw [show ((0 : Nat) : Int) = 0 from rfl] at h2
        rw [h2]
        simp only [bind, Option.bind_some, List.drop_zero, List.foldl_cons, List.foldl_nil]
        rw [if_pos (Nat.ble_eq_true_of_le (by have := hf.rl; simp only [List.length_singleton, reach]; omega))]
        have g0 : 0 ≤ b[i].to_ := by omega
        have g1 : b[i].to_ < (v.length : Int) := by omega
        have g2 : b[i].to_ < (n : Int) := by rw [← hf.vl]; exact g1
        rw [apply_eq v _ b b[i] g0 g1, hf.vl]
        simp only [Option.bind_some]
        by_cases hc : (gi v b[i].to_ &&& rval b[i] v) = gi v b[i].to_
        · rw [if_neg (by simpa using hc)]
          exact l5_eq n hn x1 b hb v0 m (i + 1) _ _ l tb _ (by omega) (hf.rule hlt g0 g2 hf.wk)
        · rw [if_pos (by simpa using hc)]
          obtain ⟨l1, tb1, a1, a2, a3, a4⟩ := add_eq hn hf.wk g0 g2
          rw [a1]
          simp only [Option.bind_some]
          exact l5_eq n hn x1 b hb v0 m (i + 1) _ _ l1 tb1 _ (by omega) (hf.rule hlt g0 g2 a2)
theorem getD_rep (n : Nat) (i0 : Nat) : (List.replicate n ([] : List Int)).getD i0 [] = [] := by
  simp only [List.getD, List.getElem?_replicate]
  split <;> rfl
theorem First.start (v0 : List W32) (b : List flow_Rule) : First v0.length b v0 v0 (List.replicate v0.length []) [] (List.replicate v0.length false) [] 0 where
  vl := rfl
  ul := by simp
  wk := ⟨by simp, by simp, by simp, fun i hi => by simp [List.getD, List.getElem?_replicate, hi]⟩
  isr := fun r => by simp
  rl := Nat.le_refl _
  isu := fun i0 k hk => by rw [getD_rep] at hk; cases hk
  un := fun i0 => by rw [getD_rep]; simp
  use := fun q r j hq => by simp at hq
  down := fun j => sub.refl _
  best := fun w _ h => h
  hold := fun r hr => by cases hr
theorem solve_eq (v0 : List W32) (x1 : List (List Int)) (b : List flow_Rule) (hv : v0.length ≤ 65536) (hb : b.length ≤ 65536) : ∃ v us, flow_solver_solve v0 x1 b = some (v, us) ∧ Gfp b v0 v := by
  unfold flow_solver_solve
  rw [if_pos (decide_eq_true (by omega)), if_pos (decide_eq_true (by simp only [reach]; omega)), if_pos (decide_eq_true (by simp only [reach]; omega))]
  rw [show Int.toNat ((v0.length : Nat) : Int) = v0.length by omega]
  obtain ⟨v, us, l, tb, rs, h1, hf⟩ := l5_eq v0.length hv x1 b hb v0 b.length 0 v0 _ _ _ _ (by omega) (First.start v0 b)
  rw [show ((0 : Nat) : Int) = 0 from rfl] at h1
  rw [h1]
  simp only [bind, Option.bind_some]
  obtain ⟨l', tb', h2, h3, h4⟩ := l19_eq v0.length hv v x1 us rs b v0.length 0 l tb (by omega) hf.wk
  rw [show ((0 : Nat) : Int) = 0 from rfl] at h2
  rw [hf.vl, h2]
  simp only [Option.bind_some]
  obtain ⟨v', q1, q2, q3, q4, q5⟩ := l23_eq v0.length hv x1 us rs b (fun r hr => ((hf.isr r).1 hr).2) hf.ul hf.isu (fun i0 => by have := hf.un i0; omega) hf.use _ v l' tb' (Nat.le_refl _) hf.vl h3 (fun r hr => by
    rcases hf.hold r hr with (h | h) | h
    · exact .inr (.inl ((h4 _).2 (.inr (by omega))))
    · exact .inr (.inr ((h4 _).2 (.inr (by omega))))
    · exact .inl h)
  rw [q1]
  refine ⟨v', us, rfl, q2, fun j => (q3 j).trans (hf.down j), fun w hk hwv => q4 w (fun r hr => hk r (List.mem_of_mem_take ((hf.isr r).1 hr).1)) (hf.best w hk hwv), fun r hr a0 a1 => ?_⟩
  exact q5 r ((hf.isr r).2 ⟨by rw [List.take_length]; exact hr, a0, a1⟩)
theorem greatest_eq (n : Int) (top : W32) (b : List flow_Rule) (hb : b.length ≤ 65536) : ∃ v, flow_Greatest n top b = some v ∧ Gfp b (if 0 ≤ n ∧ n ≤ 65536 then List.replicate n.toNat top else []) v := by
  unfold flow_Greatest
  rw [start_eq]
  simp only [bind, Option.bind_some]
  obtain ⟨v, us, h1, h2⟩ := solve_eq (if 0 ≤ n ∧ n ≤ 65536 then List.replicate n.toNat top else []) [] b (by split <;> simp; omega) hb
  rw [h1]
  exact ⟨v, rfl, h2⟩
/-- Where the sets of a function begin. -/
def base (fs : FS) : Nat → Nat
  | 0 => 0
  | f + 1 => base fs f + (2 + (List.getD fs f []).length)
theorem base_le {p : api_Program} (hg : Good p) : ∀ f, base p.funcs f ≤ 66 * f
  | 0 => Nat.le_refl _
  | f + 1 => by
    have h1 := base_le hg f
    have h2 := hg.le f
    rw [base]
    omega
theorem base_mono (fs : FS) : ∀ {f g : Nat}, f < g → base fs f + 2 + (List.getD fs f []).length ≤ base fs g
  | f, 0, h => by omega
  | f, g + 1, h => by
    rw [base]
    rcases Nat.lt_or_ge f g with h1 | h1
    · have := base_mono fs h1; omega
    · have : f = g := by omega
      subst this; omega
structure Bases (p : api_Program) (bs : List Int) : Prop where
  len : bs.length = p.funcs.length
  get : ∀ f, f < p.funcs.length → List.getD bs f 0 = (base p.funcs f : Int)
theorem lay_l4 (p : api_Program) (hg : Good p) (x0 : List Int) : ∀ (m f : Nat) (bs : List Int), f + m = p.funcs.length → bs.length = f → (∀ g, g < f → List.getD bs g 0 = (base p.funcs g : Int)) → ∃ bs', hold_Lay_l4 x0 bs (base p.funcs f : Int) p.funcs (p.funcs.length : Int) (f : Int) = some (bs', (base p.funcs p.funcs.length : Int)) ∧ Bases p bs'
  | 0, f, bs, h, hb, hget => by
    rw [hold_Lay_l4, if_neg (by simp only [decide_eq_true_eq]; omega)]
    have : f = p.funcs.length := by omega
    subst this
    exact ⟨bs, rfl, hb, hget⟩
  | m + 1, f, bs, h, hb, hget => by
    have h1 := hg.funcs
    have h2 := hg.le f
    have h3 := base_le hg f
    rw [hold_Lay_l4, if_pos (decide_eq_true (by omega)), if_pos (decide_eq_true (by omega)), if_pos (decide_eq_true (by omega)), if_pos (Nat.ble_eq_true_of_le (by simp only [List.length_singleton, reach]; omega)), Int.toNat_natCast, inc f (by omega)]
    have e : iAdd (base p.funcs f : Int) (iAdd 2 ((List.getD p.funcs f []).length : Int)) = (base p.funcs (f + 1) : Int) := by
      rw [iAdd_eq (a := 2) (by omega) (by omega), iAdd_eq (by omega) (by omega), base]
      omega
    rw [e]
    refine lay_l4 p hg x0 m (f + 1) _ (by omega) (by simp [hb]) fun g hgf => ?_
    rw [getD_snoc]
    split
    · rename_i e; subst e; rw [hb]
    · exact hget g (by omega)
theorem lay_eq (p : api_Program) (hg : Good p) : ∃ bs, hold_Lay p = some ((base p.funcs p.funcs.length : Int), bs) ∧ Bases p bs := by
  obtain ⟨bs, q1, q2⟩ := lay_l4 p hg [] p.funcs.length 0 [] (Nat.zero_add _) rfl (fun g h => by omega)
  unfold hold_Lay
  rw [show (base p.funcs 0 : Int) = 0 from rfl, show ((0 : Nat) : Int) = 0 from rfl] at q1
  rw [bind_some q1]
  exact ⟨bs, rfl, q2⟩
theorem entry_eq {p : api_Program} {bs : List Int} (hb : Bases p bs) {f : Nat} (hf : f < p.funcs.length) : hold_Places_Entry ⟨bs⟩ (f : Int) = some (base p.funcs f : Int) := by
  have h1 := hb.len
  unfold hold_Places_Entry
  rw [if_pos (decide_eq_true (by omega)), if_pos (decide_eq_true (by show (f : Int) < (bs.length : Int); omega)), Int.toNat_natCast]
  exact congrArg some (hb.get f hf)
theorem exit_eq {p : api_Program} (hg : Good p) {bs : List Int} (hb : Bases p bs) {f : Nat} (hf : f < p.funcs.length) : hold_Places_Exit ⟨bs⟩ (f : Int) = some ((base p.funcs f + 1 : Nat) : Int) := by
  have h1 := hb.len
  have h2 := base_le hg f
  have h3 := hg.funcs
  unfold hold_Places_Exit
  rw [if_pos (decide_eq_true (by omega)), if_pos (decide_eq_true (by show (f : Int) < (bs.length : Int); omega)), Int.toNat_natCast]
  show some (iAdd (List.getD bs f 0) 1) = _
  rw [hb.get f hf, inc _ (by omega)]
theorem node_eq {p : api_Program} (hg : Good p) {bs : List Int} (hb : Bases p bs) {f : Nat} (hf : f < p.funcs.length) {i : Int} (h0 : 0 ≤ i) (h1 : i ≤ 65536) : hold_Places_Node ⟨bs⟩ (f : Int) i = some ((base p.funcs f + 2 + i.toNat : Nat) : Int) := by
  have h2 := hb.len
  have h3 := base_le hg f
  have h4 := hg.funcs
  unfold hold_Places_Node
  rw [if_pos (decide_eq_true (by omega)), if_pos (decide_eq_true (by show (f : Int) < (bs.length : Int); omega)), Int.toNat_natCast]
  show some (iAdd (iAdd (List.getD bs f 0) 2) i) = _
  rw [hb.get f hf, iAdd_eq (a := (base p.funcs f : Int)) (by omega) (by omega), iAdd_eq (by omega) (by omega)]
  congr 1
  omega
abbrev allW : W32 := 4294967295#32
/-- The rules that a node's successors have. -/
def sucR (fs : FS) (f : Nat) (js : List Int) (own also : Int) (keep then_ : W32) : List flow_Rule := js.map fun y => ⟨((base fs f + 2 + y.toNat : Nat) : Int), own, also, keep, 0#32, then_⟩
def nodeR (p : api_Program) (u : List W32) (f i : Nat) : List flow_Rule :=
  let own : Int := ((base p.funcs f + 2 + i : Nat) : Int)
  let js := succ (nde p f i)
  if (nde p f i).kind = 3 then sucR p.funcs f js own (-1) allW (one (nde p f i).arg)
  else if (nde p f i).kind = 4 then sucR p.funcs f js own (-1) (~~~(one (nde p f i).arg)) 0#32
  else if (nde p f i).kind = 7 then ⟨(base p.funcs (nde p f i).arg.toNat : Int), own, -1, allW, 0#32, 0#32⟩ :: sucR p.funcs f js own ((base p.funcs (nde p f i).arg.toNat + 1 : Nat) : Int) (~~~(List.getD u (nde p f i).arg.toNat 0#32)) 0#32
  else if (nde p f i).kind = 9 then ⟨((base p.funcs f + 1 : Nat) : Int), own, -1, allW, 0#32, 0#32⟩ :: sucR p.funcs f js own (-1) allW 0#32
  else sucR p.funcs f js own (-1) allW 0#32
theorem sucR_len (fs : FS) (f : Nat) (x : api_Node) (own also : Int) (keep then_ : W32) : (sucR fs f (succ x) own also keep then_).length ≤ 2 := by
  unfold sucR
  rw [List.length_map]
  exact succ_len x
theorem nodeR_len (p : api_Program) (u : List W32) (f i : Nat) : (nodeR p u f i).length ≤ 3 := by
  have h := sucR_len p.funcs f (nde p f i)
  unfold nodeR
  simp only []
  split
  · exact Nat.le_succ_of_le (h _ _ _ _)
  · split
    · exact Nat.le_succ_of_le (h _ _ _ _)
    · split
      · rw [List.length_cons]; exact Nat.succ_le_succ (h _ _ _ _)
      · split
        · rw [List.length_cons]; exact Nat.succ_le_succ (h _ _ _ _)
        · exact Nat.le_succ_of_le (h _ _ _ _)
theorem rule_eq (l1 : List Int) (l2 : List W32) (l3 : List flow_Rule) (b0 b01 b02 : Int) (b03 : FS) (r : flow_Rule) (h : l3.length ≤ 65536) : hold_maker_rule l1 l2 l3 b0 b01 b02 b03 r = some (l3 ++ [r]) := by
  unfold hold_maker_rule
  rw [if_pos (Nat.ble_eq_true_of_le (by simp only [List.length_singleton, reach]; omega))]
theorem maker_l14 (p : api_Program) (hg : Good p) (bs : List Int) (hb : Bases p bs) (x1 : List W32) (js : List Int) (hj : js.length ≤ 2) (hjr : ∀ y ∈ js, 0 ≤ y ∧ y ≤ 65536) (x4 x5 x6 : Int) (x7 : FS) (own also : Int) (keep th : W32) (f : Nat) (hf : f < p.funcs.length) : ∀ (m k : Nat) (out : List flow_Rule) (to : Int), k + m = js.length → out.length + m ≤ 65536 → hold_maker_node_l14 bs x1 out js x4 x5 x6 x7 to own also keep 0#32 th (f : Int) (js.length : Int) (k : Int) = some (out ++ sucR p.funcs f (js.drop k) own also keep th)
  | 0, k, out, to, h, ho => by
    rw [hold_maker_node_l14, if_neg (by simp only [decide_eq_true_eq]; omega), List.drop_eq_nil_of_le (by omega)]
    simp [sucR]
  | m + 1, k, out, to, h, ho => by
    have hlt : k < js.length := by omega
    have hg1 : List.getD js k 0 = js[k] := by simp [List.getD, hlt]
    have hr := hjr _ (List.getElem_mem hlt)
    rw [hold_maker_node_l14, if_pos (decide_eq_true (by omega)), if_pos (decide_eq_true (by omega)), if_pos (decide_eq_true (by omega)), Int.toNat_natCast, hg1, bind_some (node_eq hg hb hf hr.1 hr.2), bind_some (rule_eq _ _ _ _ _ _ _ _ (by omega)), inc k (by omega), maker_l14 p hg bs hb x1 js hj hjr x4 x5 x6 x7 own also keep th f hf m (k + 1) _ _ (by omega) (by rw [List.length_append, List.length_singleton]; omega), List.append_assoc, List.singleton_append, List.drop_eq_getElem_cons hlt]
    rfl
theorem maker_node (p : api_Program) (hg : Good p) (bs : List Int) (hb : Bases p bs) (u : List W32) (hu : u.length = p.funcs.length) (out : List flow_Rule) (ho : out.length + 3 ≤ 65536) (b0 b01 b02 : Int) (f i : Nat) (hf : f < p.funcs.length) (hi : i < (List.getD p.funcs f []).length) : hold_maker_node bs u out b0 b01 b02 p.funcs (f : Int) (i : Int) = some (out ++ nodeR p u f i) := by
  have hok := hg.node f i hf hi
  have hle := hg.le f
  have hjr := succ_ok hok (by omega)
  have hjr' : ∀ y ∈ succ (nde p f i), 0 ≤ y ∧ y ≤ 65536 := fun y hy => by have := hjr y hy; omega
  have hsl := succ_len (nde p f i)
  have go := fun (own also : Int) (keep th : W32) (o : List flow_Rule) (h : o.length + 2 ≤ 65536) => maker_l14 p hg bs hb u (succ (nde p f i)) hsl hjr' b0 b01 b02 p.funcs own also keep th f hf _ 0 o 0 (Nat.zero_add _) (by omega)
  have hc := hok.call
  unfold hold_maker_node
  rw [if_pos (decide_eq_true (by omega)), if_pos (decide_eq_true (by omega)), if_pos (decide_eq_true (by omega)), Int.toNat_natCast f, if_pos (decide_eq_true (by omega)), Int.toNat_natCast i, bind_some (node_eq hg hb hf (i := (i : Int)) (by omega) (by omega)), Int.toNat_natCast i]
  unfold nodeR
  simp only []
  by_cases h3 : (nde p f i).kind = 3
  · rw [if_pos (eqT h3), if_pos h3, bind_some (one_eq _), bind_some (succ_eq _)]
    have q := go ((base p.funcs f + 2 + i : Nat) : Int) (-1) allW (one (nde p f i).arg) out (by omega)
    rw [show ((0 : Nat) : Int) = 0 from rfl, List.drop_zero] at q
    rw [bind_some q]
  rw [if_neg (eqF h3), if_neg h3]
  by_cases h4 : (nde p f i).kind = 4
  · rw [if_pos (eqT h4), if_pos h4, bind_some (one_eq _), bind_some (succ_eq _)]
    have q := go ((base p.funcs f + 2 + i : Nat) : Int) (-1) (~~~(one (nde p f i).arg)) 0#32 out (by omega)
    rw [show ((0 : Nat) : Int) = 0 from rfl, List.drop_zero] at q
    rw [bind_some q]
  rw [if_neg (eqF h4), if_neg h4]
  by_cases h7 : (nde p f i).kind = 7
  · have ha := hc h7
    obtain ⟨a, ha2⟩ : ∃ a : Nat, (List.getD (List.getD p.funcs f []) i d_api_Node).arg = (a : Int) := ⟨(List.getD (List.getD p.funcs f []) i d_api_Node).arg.toNat, by omega⟩
    rw [ha2] at ha
    rw [if_pos (eqT h7), if_pos h7, ha2, Int.toNat_natCast a, bind_some (entry_eq hb (by omega)), bind_some (rule_eq _ _ _ _ _ _ _ _ (by omega)), if_pos (decide_eq_true (by omega)), if_pos (decide_eq_true (by omega)), bind_some (exit_eq hg hb (by omega)), bind_some (succ_eq _)]
    have q := go ((base p.funcs f + 2 + i : Nat) : Int) ((base p.funcs a + 1 : Nat) : Int) (~~~(List.getD u a 0#32)) 0#32 (out ++ [⟨(base p.funcs a : Int), ((base p.funcs f + 2 + i : Nat) : Int), -1, allW, 0#32, 0#32⟩]) (by rw [List.length_append, List.length_singleton]; omega)
    rw [show ((0 : Nat) : Int) = 0 from rfl, List.drop_zero, List.append_assoc, List.singleton_append] at q
    rw [bind_some q]
  rw [if_neg (eqF h7), if_neg h7]
  by_cases h9 : (nde p f i).kind = 9
  · rw [if_pos (eqT h9), if_pos h9, bind_some (exit_eq hg hb hf), bind_some (rule_eq _ _ _ _ _ _ _ _ (by omega)), bind_some (succ_eq _)]
    have q := go ((base p.funcs f + 2 + i : Nat) : Int) (-1) allW 0#32 (out ++ [⟨((base p.funcs f + 1 : Nat) : Int), ((base p.funcs f + 2 + i : Nat) : Int), -1, allW, 0#32, 0#32⟩]) (by rw [List.length_append, List.length_singleton]; omega)
    rw [show ((0 : Nat) : Int) = 0 from rfl, List.drop_zero, List.append_assoc, List.singleton_append] at q
    rw [bind_some q]
  · rw [if_neg (eqF h9), if_neg h9, bind_some (succ_eq _)]
    have q := go ((base p.funcs f + 2 + i : Nat) : Int) (-1) allW 0#32 out (by omega)
    rw [show ((0 : Nat) : Int) = 0 from rfl, List.drop_zero] at q
    rw [bind_some q]
def nodesR (p : api_Program) (u : List W32) (f : Nat) : Nat → Nat → List flow_Rule
  | _, 0 => []
  | i, m + 1 => nodeR p u f i ++ nodesR p u f (i + 1) m
theorem nodesR_len (p : api_Program) (u : List W32) (f : Nat) : ∀ (m i : Nat), (nodesR p u f i m).length ≤ 3 * m
  | 0, i => Nat.zero_le _
  | m + 1, i => by
    have h1 := nodesR_len p u f m (i + 1)
    have h2 := nodeR_len p u f i
    rw [nodesR, List.length_append]
    omega
theorem nodesR_mem {p : api_Program} {u : List W32} {f : Nat} {r : flow_Rule} : ∀ {m i : Nat}, r ∈ nodesR p u f i m ↔ ∃ k, i ≤ k ∧ k < i + m ∧ r ∈ nodeR p u f k
  | 0, i => by
    rw [nodesR]
    exact ⟨(fun h => by cases h), fun ⟨k, h1, h2, _⟩ => by omega⟩
  | m + 1, i => by
    rw [nodesR, List.mem_append, nodesR_mem]
    constructor
    · rintro (h | ⟨k, h1, h2, h3⟩)
      · exact ⟨i, Nat.le_refl _, by omega, h⟩
      · exact ⟨k, by omega, by omega, h3⟩
    · rintro ⟨k, h1, h2, h3⟩
      rcases Nat.eq_or_lt_of_le h1 with rfl | h4
      · exact .inl h3
      · exact .inr ⟨k, h4, by omega, h3⟩
theorem rules_l14 (p : api_Program) (hg : Good p) (bs : List Int) (hb : Bases p bs) (u : List W32) (hu : u.length = p.funcs.length) (x3 x4 x5 : Int) (x7 : W32) (f : Nat) (hf : f < p.funcs.length) (x9 : FS) (x10 x11 : Int) : ∀ (m i : Nat) (out : List flow_Rule), i + m = (List.getD p.funcs f []).length → out.length + 3 * m ≤ 65000 → hold_Rules_l14 bs u out x3 x4 x5 p.funcs x7 (f : Int) x9 x10 x11 ((List.getD p.funcs f []).length : Int) (i : Int) = some (out ++ nodesR p u f i m)
  | 0, i, out, h, ho => by
    rw [hold_Rules_l14, if_neg (by simp only [decide_eq_true_eq]; omega)]
    simp [nodesR]
  | m + 1, i, out, h, ho => by
    have h1 := nodeR_len p u f i
    have hle := hg.le f
    rw [hold_Rules_l14, if_pos (decide_eq_true (by omega)), bind_some (maker_node p hg bs hb u hu out (by omega) x3 x4 x5 f i hf (by omega)), inc i (by omega), rules_l14 p hg bs hb u hu x3 x4 x5 x7 f hf x9 x10 x11 m (i + 1) _ (by omega) (by rw [List.length_append]; omega), nodesR, List.append_assoc]
def entR (p : api_Program) (fm : W32) (f : Nat) : List flow_Rule := if fm.getLsbD f = true then [⟨(base p.funcs f : Int), -1, -1, 0#32, 0#32, 0#32⟩] else []
def funcR (p : api_Program) (u : List W32) (fm : W32) (f : Nat) : List flow_Rule := entR p fm f ++ (⟨((base p.funcs f + 2 + 0 : Nat) : Int), (base p.funcs f : Int), -1, allW, 0#32, 0#32⟩ :: nodesR p u f 0 (List.getD p.funcs f []).length)
theorem funcR_len {p : api_Program} (hg : Good p) (u : List W32) (fm : W32) (f : Nat) : (funcR p u fm f).length ≤ 194 := by
  have h1 := nodesR_len p u f (List.getD p.funcs f []).length 0
  have h2 := hg.le f
  unfold funcR entR
  rw [List.length_append, List.length_cons]
  split
  · rw [List.length_singleton]; omega
  · rw [List.length_nil]; omega
def funcsR (p : api_Program) (u : List W32) (fm : W32) : Nat → Nat → List flow_Rule
  | _, 0 => []
  | f, m + 1 => funcR p u fm f ++ funcsR p u fm (f + 1) m
theorem funcsR_len {p : api_Program} (hg : Good p) (u : List W32) (fm : W32) : ∀ (m f : Nat), (funcsR p u fm f m).length ≤ 194 * m
  | 0, f => Nat.zero_le _
  | m + 1, f => by
    have h1 := funcsR_len hg u fm m (f + 1)
    have h2 := funcR_len hg u fm f
    rw [funcsR, List.length_append]
    omega
theorem funcsR_mem {p : api_Program} {u : List W32} {fm : W32} {r : flow_Rule} : ∀ {m f : Nat}, r ∈ funcsR p u fm f m ↔ ∃ k, f ≤ k ∧ k < f + m ∧ r ∈ funcR p u fm k
  | 0, f => by
    rw [funcsR]
    exact ⟨(fun h => by cases h), fun ⟨k, h1, h2, _⟩ => by omega⟩
  | m + 1, f => by
    rw [funcsR, List.mem_append, funcsR_mem]
    constructor
    · rintro (h | ⟨k, h1, h2, h3⟩)
      · exact ⟨f, Nat.le_refl _, by omega, h⟩
      · exact ⟨k, by omega, by omega, h3⟩
    · rintro ⟨k, h1, h2, h3⟩
      rcases Nat.eq_or_lt_of_le h1 with rfl | h4
      · exact .inl h3
      · exact .inr ⟨k, h4, by omega, h3⟩
theorem rules_l8 (p : api_Program) (hg : Good p) (bs : List Int) (hb : Bases p bs) (u : List W32) (hu : u.length = p.funcs.length) (x3 x4 x5 : Int) (fm : W32) : ∀ (m f : Nat) (out : List flow_Rule), f + m = p.funcs.length → out.length + 194 * m ≤ 60000 → hold_Rules_l8 bs u out x3 x4 x5 p.funcs fm p.funcs (p.funcs.length : Int) (f : Int) = some (out ++ funcsR p u fm f m)
  | 0, f, out, h, ho => by
    rw [hold_Rules_l8, if_neg (by simp only [decide_eq_true_eq]; omega)]
    simp [funcsR]
  | m + 1, f, out, h, ho => by
    have hn := hg.funcs
    have hle := hg.le f
    have hfl := funcR_len hg u fm f
    have h0 := node_eq hg hb (f := f) (by omega) (i := 0) (Int.le_refl _) (by omega)
    rw [show (0 : Int).toNat = 0 from rfl] at h0
    have ih := rules_l8 p hg bs hb u hu x3 x4 x5 fm m (f + 1) (out ++ funcR p u fm f) (by omega) (by rw [List.length_append]; omega)
    rw [hold_Rules_l8, if_pos (decide_eq_true (by omega)), if_pos (decide_eq_true (by omega)), if_pos (decide_eq_true (by omega)), bind_some (show sets_Has fm (f : Int) = some (fm.getLsbD f) by rw [has_eq, if_pos (by omega), Int.toNat_natCast]), Int.toNat_natCast f, inc f (by omega)]
    unfold funcR entR at ih
    by_cases hfm : fm.getLsbD f = true
    · rw [if_pos hfm] at ih
      have q := rules_l14 p hg bs hb u hu x3 x4 x5 fm f (by omega) p.funcs (p.funcs.length : Int) (f : Int) (List.getD p.funcs f []).length 0 (out ++ [⟨(base p.funcs f : Int), -1, -1, 0#32, 0#32, 0#32⟩] ++ [⟨((base p.funcs f + 2 + 0 : Nat) : Int), (base p.funcs f : Int), -1, allW, 0#32, 0#32⟩]) (Nat.zero_add _) (by simp only [List.length_append, List.length_singleton]; omega)
      rw [show ((0 : Nat) : Int) = 0 from rfl] at q
      rw [if_pos hfm, bind_some (entry_eq hb (by omega)), bind_some (rule_eq _ _ _ _ _ _ _ _ (by omega)), bind_some h0, bind_some (entry_eq hb (by omega)), bind_some (rule_eq _ _ _ _ _ _ _ _ (by rw [List.length_append, List.length_singleton]; omega))]
      rw [bind_some q, show ∀ (E N : flow_Rule) (t : List flow_Rule), out ++ [E] ++ [N] ++ t = out ++ ([E] ++ N :: t) from fun E N t => by simp]
      refine ih.trans ?_
      rw [funcsR]
      unfold funcR entR
      rw [if_pos hfm, List.append_assoc]
    · rw [if_neg hfm] at ih
      have q := rules_l14 p hg bs hb u hu x3 x4 x5 fm f (by omega) p.funcs (p.funcs.length : Int) (f : Int) (List.getD p.funcs f []).length 0 (out ++ [⟨((base p.funcs f + 2 + 0 : Nat) : Int), (base p.funcs f : Int), -1, allW, 0#32, 0#32⟩]) (Nat.zero_add _) (by simp only [List.length_append, List.length_singleton]; omega)
      rw [show ((0 : Nat) : Int) = 0 from rfl] at q
      rw [if_neg hfm, bind_some h0, bind_some (entry_eq hb (by omega)), bind_some (rule_eq _ _ _ _ _ _ _ _ (by omega))]
      rw [bind_some q, show ∀ (N : flow_Rule) (t : List flow_Rule), out ++ [N] ++ t = out ++ ([] ++ N :: t) from fun N t => by simp]
      refine ih.trans ?_
      rw [funcsR]
      unfold funcR entR
      rw [if_neg hfm, List.append_assoc]
/-- What the program's rules and its checks go by. -/
structure Both2 (p : api_Program) (u : List W32) (fm : W32) : Prop where
  ul : u.length = p.funcs.length
  unl : kill_Unlocks p = some (0, u)
  beg : ∃ x, graph_Begun p = some x ∧ fm = x ||| one 0
theorem rules_eq (p : api_Program) (hg : Good p) {u : List W32} {fm : W32} (h : Both2 p u fm) : hold_Rules p = some (0, funcsR p u fm 0 p.funcs.length) := by
  have hn := hg.funcs
  obtain ⟨bs, b1, b2⟩ := lay_eq p hg
  obtain ⟨x, x1, rfl⟩ := h.beg
  have q := rules_l8 p hg bs b2 u h.ul p.globals p.locks p.slots (x ||| one 0) p.funcs.length 0 [] (Nat.zero_add _) (by rw [List.length_nil]; omega)
  rw [show ((0 : Nat) : Int) = 0 from rfl, List.nil_append] at q
  unfold hold_Rules
  rw [bind_some h.unl, if_neg (show ¬ ((0 : Int) != 0) = true by decide), bind_some b1, bind_some x1, bind_some (one_eq 0), bind_some q]
theorem both2 (p : api_Program) (hg : Good p) (hk : prog_Check p = some (0, 0, 0)) : ∃ u fm, Both2 p u fm := by
  obtain ⟨u, u1, u2, _⟩ := unlocks_eq p hg hk
  obtain ⟨x, x1, _⟩ := begun_eq p hg
  exact ⟨u, x ||| one 0, u2, u1, x, x1, rfl⟩
/-- Sets that are laid as sections tell. -/
structure Lays (p : api_Program) (l : List api_Section) (w : List W32) : Prop where
  len : w.length = base p.funcs p.funcs.length
  ent : ∀ f, f < p.funcs.length → gi w (base p.funcs f : Int) = (sec l f).entry
  exi : ∀ f, f < p.funcs.length → gi w ((base p.funcs f + 1 : Nat) : Int) = (sec l f).exit
  nod : ∀ f i, f < p.funcs.length → i < (List.getD p.funcs f []).length → gi w ((base p.funcs f + 2 + i : Nat) : Int) = hld l f i
theorem gi_neg (w : List W32) : gi w (-1) = 0#32 := by
  unfold gi
  rw [if_neg (by omega)]
theorem rval0 {w : List W32} {to own also : Int} {keep th X : W32} (hX : ((gi w own &&& keep) ||| gi w also) ||| th = X) : rval ⟨to, own, also, keep, 0#32, th⟩ w = X := by
  unfold rval
  rw [if_pos (.inl rfl)]
  exact hX
theorem and_all (a : W32) : a &&& allW = a := by
  apply BitVec.eq_of_getLsbD_eq
  intro i hi
  rw [show allW = BitVec.allOnes 32 from rfl, BitVec.getLsbD_and, BitVec.getLsbD_allOnes]
  simp [hi]
theorem x_plain (w : List W32) (own : Int) : ((gi w own &&& allW) ||| gi w (-1)) ||| 0#32 = gi w own := by
  rw [gi_neg, and_all]; simp
theorem base_lt {p : api_Program} {f k : Nat} (hf : f < p.funcs.length) (hk : k < 2 + (List.getD p.funcs f []).length) : base p.funcs f + k < base p.funcs p.funcs.length := by
  have := base_mono p.funcs hf
  omega
theorem suc_keeps {p : api_Program} {l : List api_Section} {w : List W32} (hL : Lays p l w) {f : Nat} (hf : f < p.funcs.length) {js : List Int} (hj : ∀ y ∈ js, 0 ≤ y ∧ y < ((List.getD p.funcs f []).length : Int)) {own also : Int} {keep th X : W32} (hX : ((gi w own &&& keep) ||| gi w also) ||| th = X) :
    (∀ r ∈ sucR p.funcs f js own also keep th, 0 ≤ r.to_ → r.to_ < (base p.funcs p.funcs.length : Int) → sub (gi w r.to_) (rval r w)) ↔ js.all (fun y => subb (hld l f y.toNat) X) = true := by
  rw [List.all_eq_true]
  constructor
  · intro h y hy
    have hr := hj y hy
    have hb := base_lt (p := p) hf (k := 2 + y.toNat) (by omega)
    have := h _ (List.mem_map.2 ⟨y, hy, rfl⟩) (by show (0 : Int) ≤ ((_ : Nat) : Int); omega) (by show ((base p.funcs f + 2 + y.toNat : Nat) : Int) < _; omega)
    rw [rval0 hX] at this
    rw [show (gi w ((base p.funcs f + 2 + y.toNat : Nat) : Int)) = hld l f y.toNat from hL.nod f _ hf (by omega)] at this
    exact subb_iff.2 this
  · intro h r hr _ _
    obtain ⟨y, hy, rfl⟩ := List.mem_map.1 hr
    have hr := hj y hy
    rw [rval0 hX]
    show sub (gi w ((base p.funcs f + 2 + y.toNat : Nat) : Int)) X
    rw [hL.nod f _ hf (by omega)]
    exact subb_iff.1 (h y hy)
theorem one_keeps {N : Nat} {w : List W32} {to own also : Int} {keep th X Y : W32} (h0 : 0 ≤ to) (h1 : to < (N : Int)) (hX : ((gi w own &&& keep) ||| gi w also) ||| th = X) (hY : gi w to = Y) : (0 ≤ to → to < (N : Int) → sub (gi w to) (rval ⟨to, own, also, keep, 0#32, th⟩ w)) ↔ subb Y X = true := by
  rw [rval0 hX, hY]
  exact ⟨fun h => subb_iff.2 (h h0 h1), fun h _ _ => subb_iff.1 h⟩
theorem nodeW_iff {p : api_Program} {l : List api_Section} {u : List W32} {f i : Nat} : nodeW p l u f i = 0 ↔ ((nde p f i).kind = 7 → subb (sec l (nde p f i).arg.toNat).entry (hld l f i) = true) ∧ ((nde p f i).kind = 9 → subb (sec l f).exit (hld l f i) = true) ∧ (succ (nde p f i)).all (fun y => subb (hld l f y.toNat) (bhd u l (nde p f i) (hld l f i))) = true :=
  ⟨nodeW_zero, fun ⟨h1, h2, h3⟩ => by rw [nodeW_r h1 h2, if_pos h3]⟩
theorem node_keeps {p : api_Program} (hg : Good p) {l : List api_Section} {w u : List W32} (hL : Lays p l w) {f i : Nat} (hf : f < p.funcs.length) (hi : i < (List.getD p.funcs f []).length) :
    (∀ r ∈ nodeR p u f i, 0 ≤ r.to_ → r.to_ < (base p.funcs p.funcs.length : Int) → sub (gi w r.to_) (rval r w)) ↔ nodeW p l u f i = 0 := by
  have hok := hg.node f i hf hi
  have hjr := succ_ok hok (by omega)
  have hown := hL.nod f i hf hi
  have hc : (nde p f i).kind = 7 → 0 ≤ (nde p f i).arg ∧ (nde p f i).arg < p.funcs.length := hok.call
  rw [nodeW_iff]
  unfold nodeR bhd
  simp only []
  by_cases h3 : (nde p f i).kind = 3
  · rw [if_pos h3, if_pos h3, suc_keeps hL hf hjr (X := hld l f i ||| one (nde p f i).arg) (by rw [gi_neg, and_all, hown]; simp)]
    exact ⟨fun h => ⟨fun h7 => by omega, fun h9 => by omega, h⟩, fun h => h.2.2⟩
  rw [if_neg h3, if_neg h3]
  by_cases h4 : (nde p f i).kind = 4
  · rw [if_pos h4, if_pos h4, suc_keeps hL hf hjr (X := hld l f i &&& ~~~(one (nde p f i).arg)) (by rw [gi_neg, hown]; simp)]
    exact ⟨fun h => ⟨fun h7 => by omega, fun h9 => by omega, h⟩, fun h => h.2.2⟩
  rw [if_neg h4, if_neg h4]
  by_cases h7 : (nde p f i).kind = 7
  · have ha := hc h7
    have hb := base_lt (p := p) (f := (nde p f i).arg.toNat) (by omega) (k := 0) (by omega)
    rw [if_pos h7, if_pos h7, List.forall_mem_cons, one_keeps (by omega) (by omega) (x_plain w _) (hL.ent _ (by omega)), hown, suc_keeps hL hf hjr (X := (hld l f i &&& ~~~(List.getD u (nde p f i).arg.toNat 0#32)) ||| (sec l (nde p f i).arg.toNat).exit) (by rw [hown, hL.exi _ (by omega)]; simp)]
    exact ⟨fun h => ⟨fun _ => h.1, fun h9 => by omega, h.2⟩, fun h => ⟨h.1 h7, h.2.2⟩⟩
  rw [if_neg h7, if_neg h7]
  by_cases h9 : (nde p f i).kind = 9
  · have hb := base_lt (p := p) hf (k := 1) (by omega)
    rw [if_pos h9, List.forall_mem_cons, one_keeps (by omega) (by omega) (x_plain w _) (hL.exi _ hf), suc_keeps hL hf hjr (X := hld l f i) (by rw [x_plain, hown]), hown]
    exact ⟨fun h => ⟨fun h => absurd h h7, fun _ => h.1, h.2⟩, fun h => ⟨h.2.1 h9, h.2.2⟩⟩
  · rw [if_neg h9, suc_keeps hL hf hjr (X := hld l f i) (by rw [x_plain, hown])]
    exact ⟨fun h => ⟨fun h => absurd h h7, fun h => absurd h h9, h⟩, fun h => h.2.2⟩
theorem subb_zero' {a : W32} : subb a 0#32 = true ↔ a = 0#32 := by
  rw [subb_iff]
  constructor
  · intro h
    apply BitVec.eq_of_getLsbD_eq
    intro i hi
    cases hb : a.getLsbD i with
    | false => simp
    | true => have := h i hb; simp at this
  · rintro rfl i h
    simp at h
theorem func_keeps {p : api_Program} (hg : Good p) {l : List api_Section} {w u : List W32} {fm : W32} (hL : Lays p l w) {f : Nat} (hf : f < p.funcs.length) :
    (∀ r ∈ funcR p u fm f, 0 ≤ r.to_ → r.to_ < (base p.funcs p.funcs.length : Int) → sub (gi w r.to_) (rval r w)) ↔ ¬ (fm.getLsbD f = true ∧ (sec l f).entry ≠ 0#32) ∧ subb (hld l f 0) (sec l f).entry = true ∧ ∀ i, i < (List.getD p.funcs f []).length → nodeW p l u f i = 0 := by
  have hb0 := base_lt (p := p) hf (k := 0) (by omega)
  have hb2 := base_lt (p := p) hf (k := 2 + 0) (by have := hg.len f hf; omega)
  have hn : (∀ r ∈ nodesR p u f 0 (List.getD p.funcs f []).length, 0 ≤ r.to_ → r.to_ < (base p.funcs p.funcs.length : Int) → sub (gi w r.to_) (rval r w)) ↔ ∀ i, i < (List.getD p.funcs f []).length → nodeW p l u f i = 0 := by
    constructor
    · intro h i hi
      exact (node_keeps hg hL hf hi).1 fun r hr => h r (nodesR_mem.2 ⟨i, Nat.zero_le _, by omega, hr⟩)
    · intro h r hr
      obtain ⟨k, _, h2, h3⟩ := nodesR_mem.1 hr
      exact (node_keeps hg hL hf (by omega)).2 (h k (by omega)) r h3
  have he : (∀ r ∈ entR p fm f, 0 ≤ r.to_ → r.to_ < (base p.funcs p.funcs.length : Int) → sub (gi w r.to_) (rval r w)) ↔ ¬ (fm.getLsbD f = true ∧ (sec l f).entry ≠ 0#32) := by
    unfold entR
    by_cases hfm : fm.getLsbD f = true
    · rw [if_pos hfm, List.forall_mem_singleton, one_keeps (X := 0#32) (by omega) (by omega) (by rw [gi_neg]; simp) (hL.ent f hf), subb_zero']
      exact ⟨fun h h2 => h2.2 h, fun h => Classical.byContradiction fun h2 => h ⟨hfm, h2⟩⟩
    · rw [if_neg hfm]
      exact ⟨fun _ h => hfm h.1, fun _ r hr => by cases hr⟩
  unfold funcR
  rw [List.forall_mem_append, List.forall_mem_cons, he, hn, one_keeps (by omega) (by omega) (x_plain w _) (hL.nod f 0 hf (hg.len f hf).1), hL.ent f hf]
theorem keeps_iff {p : api_Program} (hg : Good p) {l : List api_Section} {w u : List W32} {fm : W32} (hL : Lays p l w) : Keeps (funcsR p u fm 0 p.funcs.length) (base p.funcs p.funcs.length) w ↔ Fine p l u fm := by
  unfold Keeps Fine
  constructor
  · intro h f hf
    exact (func_keeps hg hL hf).1 fun r hr => h r (funcsR_mem.2 ⟨f, Nat.zero_le _, by omega, hr⟩)
  · intro h r hr
    obtain ⟨k, _, h2, h3⟩ := funcsR_mem.1 hr
    exact (func_keeps hg hL (by omega)).2 (h k (by omega)) r h3
theorem gi_app_l {w t : List W32} {j : Nat} (h : j < w.length) : gi (w ++ t) (j : Int) = gi w (j : Int) := by
  unfold gi
  rw [if_pos (by rw [List.length_append]; omega), if_pos (by omega), Int.toNat_natCast]
  simp [List.getD, List.getElem?_append_left h]
theorem gi_app_r {w t : List W32} {j : Nat} (h : j < t.length) : gi (w ++ t) ((w.length + j : Nat) : Int) = List.getD t j 0#32 := by
  unfold gi
  rw [if_pos (by rw [List.length_append]; omega), Int.toNat_natCast]
  unfold List.getD
  rw [List.getElem?_append_right (Nat.le_add_right _ _), Nat.add_sub_cancel_left]
theorem lays_some (p : api_Program) (l : List api_Section) (hs : Shp p l) : ∀ m, m ≤ p.funcs.length → ∃ w : List W32, w.length = base p.funcs m ∧ ∀ f, f < m → gi w (base p.funcs f : Int) = (sec l f).entry ∧ gi w ((base p.funcs f + 1 : Nat) : Int) = (sec l f).exit ∧ ∀ i, i < (List.getD p.funcs f []).length → gi w ((base p.funcs f + 2 + i : Nat) : Int) = hld l f i
  | 0, _ => ⟨[], rfl, fun f h => by omega⟩
  | m + 1, h => by
    obtain ⟨w, w1, w2⟩ := lays_some p l hs m (by omega)
    have hh := (hs.2 m (by omega)).1
    refine ⟨w ++ ((sec l m).entry :: (sec l m).exit :: (sec l m).held), by rw [List.length_append, List.length_cons, List.length_cons, base, w1, hh]; omega, fun f hf => ?_⟩
    by_cases e : f = m
    · subst e
      have g := fun j (hj : j < ((sec l f).entry :: (sec l f).exit :: (sec l f).held).length) => gi_app_r (w := w) hj
      simp only [List.length_cons] at g
      rw [w1] at g
      refine ⟨?_, ?_, fun i hi => ?_⟩
      · have := g 0 (by omega)
        rw [Nat.add_zero] at this
        rw [this]; rfl
      · rw [g 1 (by omega)]; rfl
      · rw [show base p.funcs f + 2 + i = base p.funcs f + (i + 2) by omega, g (i + 2) (by omega)]; rfl
    · have hb := base_mono p.funcs (show f < m by omega)
      obtain ⟨h1, h2, h3⟩ := w2 f (by omega)
      exact ⟨by rw [gi_app_l (by omega)]; exact h1, by rw [gi_app_l (by omega)]; exact h2, fun i hi => by rw [gi_app_l (by omega)]; exact h3 i hi⟩
theorem lays_ex (p : api_Program) (l : List api_Section) (hs : Shp p l) : ∃ w, Lays p l w := by
  obtain ⟨w, w1, w2⟩ := lays_some p l hs p.funcs.length (Nat.le_refl _)
  exact ⟨w, w1, fun f hf => (w2 f hf).1, fun f hf => (w2 f hf).2.1, fun f i hf hi => (w2 f hf).2.2 i hi⟩
theorem getD_gi {v : List W32} {j : Nat} (h : j < v.length) : List.getD v j 0#32 = gi v (j : Int) := by
  unfold gi
  rw [if_pos (by omega), Int.toNat_natCast]
theorem find_l12 (p : api_Program) (hg : Good p) (bs : List Int) (hb : Bases p bs) (v : List W32) (hv : v.length = base p.funcs p.funcs.length) (x2 : List api_Section) (x4 : List W32) (x5 x6 x7 x8 : W32) (f : Nat) (hf : f < p.funcs.length) (x10 : FS) (x11 x12 : Int) : ∀ (m i : Nat) (h : List W32), i + m = (List.getD p.funcs f []).length → h.length = i → (∀ k, k < i → List.getD h k 0#32 = gi v ((base p.funcs f + 2 + k : Nat) : Int)) → ∃ h', hold_Find_l12 bs v x2 h x4 x5 x6 x7 x8 (f : Int) x10 x11 x12 ((List.getD p.funcs f []).length : Int) (i : Int) = some h' ∧ h'.length = (List.getD p.funcs f []).length ∧ ∀ k, k < (List.getD p.funcs f []).length → List.getD h' k 0#32 = gi v ((base p.funcs f + 2 + k : Nat) : Int)
  | 0, i, h, hi, hl, hget => by
    rw [hold_Find_l12, if_neg (by simp only [decide_eq_true_eq]; omega)]
    exact ⟨h, rfl, by omega, fun k hk => hget k (by omega)⟩
  | m + 1, i, h, hi, hl, hget => by
    have hle := hg.le f
    have hbl := base_lt (p := p) hf (k := 2 + i) (by omega)
    have hn := node_eq hg hb hf (i := (i : Int)) (by omega) (by omega)
    rw [Int.toNat_natCast] at hn
    rw [hold_Find_l12, if_pos (decide_eq_true (by omega)), bind_some hn, if_pos (decide_eq_true (by omega)), if_pos (decide_eq_true (by omega)), if_pos (Nat.ble_eq_true_of_le (by simp only [List.length_singleton, reach]; omega)), inc i (by omega), Int.toNat_natCast]
    refine find_l12 p hg bs hb v hv x2 x4 x5 x6 x7 x8 f hf x10 x11 x12 m (i + 1) _ (by omega) (by rw [List.length_append, List.length_singleton]; omega) fun k hk => ?_
    rw [getD_snoc]
    split
    · rename_i e
      subst e
      rw [hl]
      exact getD_gi (by omega)
    · exact hget k (by omega)
/-- A function's section of sets. -/
structure Found (p : api_Program) (v : List W32) (f : Nat) (s : api_Section) : Prop where
  ent : s.entry = gi v (base p.funcs f : Int)
  exi : s.exit = gi v ((base p.funcs f + 1 : Nat) : Int)
  hl : s.held.length = (List.getD p.funcs f []).length
  nod : ∀ i, i < (List.getD p.funcs f []).length → List.getD s.held i 0#32 = gi v ((base p.funcs f + 2 + i : Nat) : Int)
  lv : s.live = List.replicate (List.getD p.funcs f []).length 0#32
  le : s.liveEntry = 0#32
  lx : s.liveExit = 0#32
theorem find_l8 (p : api_Program) (hg : Good p) (bs : List Int) (hb : Bases p bs) (v : List W32) (hv : v.length = base p.funcs p.funcs.length) : ∀ (m f : Nat) (t : List api_Section), f + m = p.funcs.length → t.length = f → (∀ g, g < f → Found p v g (sec t g)) → ∃ t', hold_Find_l8 bs v t p.funcs (p.funcs.length : Int) (f : Int) = some t' ∧ t'.length = p.funcs.length ∧ ∀ g, g < p.funcs.length → Found p v g (sec t' g)
  | 0, f, t, h, hl, hget => by
    rw [hold_Find_l8, if_neg (by simp only [decide_eq_true_eq]; omega)]
    exact ⟨t, rfl, by omega, fun g hg => hget g (by omega)⟩
  | m + 1, f, t, h, hl, hget => by
    have hn := hg.funcs
    have hle := hg.le f
    have hb0 := base_lt (p := p) (f := f) (by omega) (k := 0) (by omega)
    have hb1 := base_lt (p := p) (f := f) (by omega) (k := 1) (by omega)
    obtain ⟨hd, q1, q2, q3⟩ := find_l12 p hg bs hb v hv t (List.replicate (List.getD p.funcs f []).length 0#32) (List.getD v (base p.funcs f) 0#32) (List.getD v (base p.funcs f + 1) 0#32) 0#32 0#32 f (by omega) p.funcs (p.funcs.length : Int) (f : Int) (List.getD p.funcs f []).length 0 [] (Nat.zero_add _) rfl (fun k hk => by omega)
    rw [show ((0 : Nat) : Int) = 0 from rfl] at q1
    rw [hold_Find_l8, if_pos (decide_eq_true (by omega)), if_pos (decide_eq_true (by omega)), if_pos (decide_eq_true (by omega)), bind_some (entry_eq hb (by omega)), if_pos (decide_eq_true (by omega)), if_pos (decide_eq_true (by omega)), bind_some (exit_eq hg hb (by omega)), if_pos (decide_eq_true (by omega)), if_pos (decide_eq_true (by omega)), Int.toNat_natCast f, if_pos (decide_eq_true (by omega)), if_pos (decide_eq_true (by simp only [reach]; omega)), Int.toNat_natCast, Int.toNat_natCast, Int.toNat_natCast, bind_some q1, if_pos (Nat.ble_eq_true_of_le (by simp only [List.length_singleton, reach]; omega)), inc f (by omega)]
    refine find_l8 p hg bs hb v hv m (f + 1) _ (by omega) (by rw [List.length_append, List.length_singleton]; omega) fun g hgf => ?_
    unfold sec
    rw [getD_snoc]
    split
    · rename_i e
      subst e
      rw [hl]
      exact ⟨getD_gi (by omega), getD_gi (by omega), q2, q3, rfl, rfl, rfl⟩
    · exact hget g (by omega)
theorem found_lays {p : api_Program} {v : List W32} {t : List api_Section} (hv : v.length = base p.funcs p.funcs.length) (hl : t.length = p.funcs.length) (h : ∀ g, g < p.funcs.length → Found p v g (sec t g)) : Lays p t v ∧ Shp p t :=
  ⟨⟨hv, fun f hf => (h f hf).ent.symm, fun f hf => (h f hf).exi.symm, fun f i hf hi => ((h f hf).nod i hi).symm⟩, hl, fun f hf => ⟨(h f hf).hl, by rw [(h f hf).lv, List.length_replicate]⟩⟩
/-- All locks of a program. -/
def topL (p : api_Program) : W32 := BitVec.setWidth 32 (((1#64) <<< p.locks.toNat) - 1#64)
theorem all_eq (p : api_Program) (h0 : 0 ≤ p.locks) (h1 : p.locks ≤ 32) : sets_All p.locks = some (topL p) := by
  unfold sets_All topL
  rw [if_neg (show ¬ 32 < p.locks by omega), if_neg (show ¬ 0 > p.locks by omega), if_pos (decide_eq_true (by omega))]
theorem find_eq (p : api_Program) (hg : Good p) {u : List W32} {fm : W32} (h : Both2 p u fm) : ∃ v t, hold_Find p = some (0, t) ∧ Gfp (funcsR p u fm 0 p.funcs.length) (List.replicate (base p.funcs p.funcs.length) (topL p)) v ∧ v.length = base p.funcs p.funcs.length ∧ t.length = p.funcs.length ∧ ∀ g, g < p.funcs.length → Found p v g (sec t g) := by
  have hn := hg.funcs
  have hlk := hg.locks
  have hbl := base_le hg p.funcs.length
  have hrl := funcsR_len hg u fm p.funcs.length 0
  obtain ⟨bs, b1, b2⟩ := lay_eq p hg
  obtain ⟨v, v1, v2⟩ := greatest_eq (base p.funcs p.funcs.length : Int) (topL p) (funcsR p u fm 0 p.funcs.length) (by omega)
  rw [if_pos (by omega), Int.toNat_natCast] at v2
  have hv : v.length = base p.funcs p.funcs.length := by rw [v2.len, List.length_replicate]
  obtain ⟨t, t1, t2, t3⟩ := find_l8 p hg bs b2 v hv p.funcs.length 0 [] (Nat.zero_add _) rfl (fun g h => by omega)
  rw [show ((0 : Nat) : Int) = 0 from rfl] at t1
  unfold hold_Find
  rw [bind_some (rules_eq p hg h), if_neg (show ¬ ((0 : Int) != 0) = true by decide), bind_some b1, bind_some (all_eq p hlk.1 (by omega)), bind_some v1, bind_some t1]
  exact ⟨v, t, rfl, v2, hv, t2, t3⟩
theorem find_bad (p : api_Program) {a b e : Int} (hk : prog_Check p = some (a, b, e)) (he : e ≠ 0) : hold_Find p = some (e, []) := by
  unfold hold_Find hold_Rules
  rw [bind_some (unlocks_bad p hk he), if_pos (neT he), bind_some rfl, if_pos (neT he)]
theorem gi_rep {n : Nat} {x : W32} {j : Int} (h0 : 0 ≤ j) (h1 : j < (n : Int)) : gi (List.replicate n x) j = x := by
  unfold gi
  rw [if_pos ⟨h0, by rw [List.length_replicate]; exact h1⟩]
  simp [List.getD, List.getElem?_replicate, show j.toNat < n by omega]
theorem gi_map_and (w : List W32) (m : W32) (j : Int) : gi (w.map (fun x => x &&& m)) j = gi w j &&& m := by
  unfold gi
  rw [List.length_map]
  split
  · rename_i h
    have : j.toNat < w.length := by omega
    simp [List.getD, this]
  · simp
theorem keeps_and {l : List flow_Rule} {n : Nat} {w : List W32} (m : W32) (hif : ∀ r ∈ l, r.if_ = 0#32) (h : Keeps l n w) : Keeps l n (w.map (fun x => x &&& m)) := by
  intro r hr h0 h1
  have h2 := h r hr h0 h1
  rw [gi_map_and]
  unfold rval at h2 ⊢
  rw [if_pos (.inl (hif r hr))] at h2 ⊢
  rw [gi_map_and, gi_map_and]
  intro i hi
  rw [BitVec.getLsbD_and, Bool.and_eq_true] at hi
  have h3 := h2 i hi.1
  simp only [BitVec.getLsbD_or, BitVec.getLsbD_and, Bool.or_eq_true, Bool.and_eq_true] at h3 ⊢
  rcases h3 with (⟨a, b⟩ | a) | a
  · exact .inl (.inl ⟨⟨a, hi.2⟩, b⟩)
  · exact .inl (.inr ⟨a, hi.2⟩)
  · exact .inr a
theorem sucR_if {fs : FS} {f : Nat} {js : List Int} {own also : Int} {keep th : W32} : ∀ r ∈ sucR fs f js own also keep th, r.if_ = 0#32 := fun r hr => by
  obtain ⟨y, _, rfl⟩ := List.mem_map.1 hr
  rfl
theorem funcsR_if {p : api_Program} {u : List W32} {fm : W32} {m f : Nat} : ∀ r ∈ funcsR p u fm f m, r.if_ = 0#32 := by
  intro r hr
  obtain ⟨k, _, _, h3⟩ := funcsR_mem.1 hr
  unfold funcR entR at h3
  rcases List.mem_append.1 h3 with h | h
  · split at h
    · rw [List.mem_singleton] at h; subst h; rfl
    · cases h
  · rcases List.mem_cons.1 h with h | h
    · subst h; rfl
    · obtain ⟨i, _, _, h5⟩ := nodesR_mem.1 h
      unfold nodeR at h5
      simp only [] at h5
      split at h5
      · exact sucR_if r h5
      · split at h5
        · exact sucR_if r h5
        · split at h5
          · rcases List.mem_cons.1 h5 with h6 | h6
            · subst h6; rfl
            · exact sucR_if r h6
          · split at h5
            · rcases List.mem_cons.1 h5 with h6 | h6
              · subst h6; rfl
              · exact sucR_if r h6
            · exact sucR_if r h5
/-- What keeps the rules is within the greatest, as far as the locks go. -/
theorem best_of {p : api_Program} {u : List W32} {fm : W32} {v w : List W32} (hv : Gfp (funcsR p u fm 0 p.funcs.length) (List.replicate (base p.funcs p.funcs.length) (topL p)) v) (hwl : w.length = base p.funcs p.funcs.length) (hw : Keeps (funcsR p u fm 0 p.funcs.length) (base p.funcs p.funcs.length) w) (j : Int) : sub (topL p &&& gi w j) (gi v j) := by
  have h1 := keeps_and (topL p) funcsR_if hw
  have h2 := hv.best (w.map (fun x => x &&& topL p)) (by rw [List.length_replicate]; exact h1) (fun j => by
    rw [gi_map_and]
    by_cases hj : 0 ≤ j ∧ j < (base p.funcs p.funcs.length : Int)
    · rw [gi_rep hj.1 hj.2]
      exact and_sub_r _ _
    · have : gi w j = 0#32 := by unfold gi; rw [if_neg (by rw [hwl]; exact hj)]
      rw [this]
      intro i hi
      simp at hi) j
  rw [gi_map_and] at h2
  intro i hi
  refine h2 i ?_
  simp only [BitVec.getLsbD_and, Bool.and_eq_true] at hi ⊢
  exact ⟨hi.2, hi.1⟩
def exP : api_Program := ⟨0, 1, 0, [[⟨3, 0, 1, 0⟩, ⟨9, 0, 0, 0⟩]]⟩
def exS : List api_Section := [⟨0#32, 1#32, [0#32, 1#32], 0#32, 0#32, [0#32, 0#32]⟩]
theorem exCheck : prog_Check exP = some (0, 0, 0) := prog_Check_le 40 _ _ (by kernel_rfl)
theorem exGood : Good exP := by
  obtain ⟨r, r1, r2, _⟩ := check_eqP exP
  rw [exCheck] at r1
  cases r1
  exact (r2 rfl).2
theorem exFine (u : List W32) (fm : W32) : Fine exP exS u fm := by
  intro f hf
  have : f = 0 := by
    have : f < 1 := hf
    omega
  subst this
  refine ⟨fun h => h.2 rfl, by decide, fun i hi => ?_⟩
  have : i < 2 := hi
  rw [nodeW_iff]
  match i, this with
  | 0, _ => exact ⟨by decide, by decide, by kernel_rfl⟩
  | 1, _ => exact ⟨by decide, by decide, rfl⟩
theorem awake22 : alibilaw22_awake = some true := by
  obtain ⟨u, fm, h⟩ := both2 exP exGood exCheck
  obtain ⟨v, t, t1, t2, t3, t4, t5⟩ := find_eq exP exGood h
  obtain ⟨hL, hS⟩ := found_lays t3 t4 t5
  have hk : Keeps (funcsR exP u fm 0 exP.funcs.length) (base exP.funcs exP.funcs.length) v := by
    have := t2.keeps
    rw [List.length_replicate] at this
    exact this
  have hF := (keeps_iff exGood hL).1 hk
  have hSx : Shp exP exS := by
    refine ⟨rfl, fun f hf => ?_⟩
    have : f = 0 := by
      have : f < 1 := hf
      omega
    subst this
    exact ⟨rfl, rfl⟩
  obtain ⟨w, w1⟩ := lays_ex exP exS hSx
  have hb := best_of t2 w1.len ((keeps_iff exGood w1).2 (exFine u fm))
  have z0 : 0 < exP.funcs.length := by decide
  have l0 : (List.getD exP.funcs 0 []).length = 2 := rfl
  obtain ⟨f1, f2, f3⟩ := hF 0 z0
  obtain ⟨a1, a2, a3⟩ := nodeW_iff.1 (f3 0 (by decide))
  obtain ⟨b1, b2, b3⟩ := nodeW_iff.1 (f3 1 (by decide))
  have hfm : fm.getLsbD 0 = true := by
    obtain ⟨x, _, rfl⟩ := h.beg
    rw [BitVec.getLsbD_or, Bool.or_eq_true]
    exact .inr (by decide)
  have e0 : (sec t 0).entry = 0#32 := Classical.byContradiction fun hne => f1 ⟨hfm, hne⟩
  have h0 : hld t 0 0 = 0#32 := by
    rw [e0] at f2
    exact subb_zero'.1 f2
  have h1 : hld t 0 1 = 1#32 := by
    have c1 : subb (hld t 0 1) (hld t 0 0 ||| one 0) = true := by
      have := List.all_eq_true.1 a3 1 (by decide)
      exact this
    rw [h0] at c1
    have c2 := hb ((base exP.funcs 0 + 2 + 1 : Nat) : Int)
    rw [w1.nod 0 1 z0 (by decide), hL.nod 0 1 z0 (by decide)] at c2
    refine sub.antisymm ?_ ?_
    · exact subb_iff.1 (show subb (hld t 0 1) 1#32 = true from c1)
    · exact subb_iff.1 (show subb 1#32 (hld t 0 1) = true from subb_iff.2 c2)
  have h2 : (sec t 0).exit = 1#32 := by
    have c1 := b2 rfl
    rw [h1] at c1
    have c2 := hb ((base exP.funcs 0 + 1 : Nat) : Int)
    rw [w1.exi 0 z0, hL.exi 0 z0] at c2
    refine sub.antisymm (subb_iff.1 c1) ?_
    exact subb_iff.1 (show subb 1#32 (sec t 0).exit = true from subb_iff.2 c2)
  have hhl : (sec t 0).held.length = 2 := (t5 0 z0).hl
  have htl : t.length = 1 := t4
  unfold alibilaw22_awake
  rw [bind_some (show hold_Find (api_Program.mk 0 1 0 ([[api_Node.mk 3 0 1 0, api_Node.mk 9 0 0 0]])) = some (0, t) from t1)]
  simp only []
  rw [if_pos (by decide), if_pos (eqT (by omega)), if_pos (decide_eq_true (by omega)), if_pos (eqT (show (((List.getD t 0 d_api_Section).held.length : Nat) : Int) = 2 by rw [show (List.getD t 0 d_api_Section).held.length = 2 from hhl]; rfl)), if_pos (decide_eq_true (show (0 : Int) < (((List.getD t 0 d_api_Section).held.length : Nat) : Int) by rw [show (List.getD t 0 d_api_Section).held.length = 2 from hhl]; decide)), if_pos (show (List.getD (List.getD t 0 d_api_Section).held 0 0#32 == 0#32) = true by rw [show List.getD (List.getD t 0 d_api_Section).held 0 0#32 = 0#32 from h0]; decide), if_pos (decide_eq_true (show (1 : Int) < (((List.getD t 0 d_api_Section).held.length : Nat) : Int) by rw [show (List.getD t 0 d_api_Section).held.length = 2 from hhl]; decide)), if_pos (show (List.getD (List.getD t 0 d_api_Section).held 1 0#32 == 1#32) = true by rw [show List.getD (List.getD t 0 d_api_Section).held 1 0#32 = 1#32 from h1]; decide), show (List.getD t 0 d_api_Section).exit = 1#32 from h2]
  rfl
/-- What the program's rules go by is what the document knows. -/
theorem both_know (p : api_Program) (hg : Good p) (hk : prog_Check p = some (0, 0, 0)) : ∃ u fm, Both2 p u fm ∧ Know p u fm := by
  have hn := hg.funcs.2
  obtain ⟨u, u1, u2, u3⟩ := unlocks_eq p hg hk
  obtain ⟨x, x1, x2⟩ := begun_eq p hg
  refine ⟨u, x ||| one 0, ⟨u2, u1, x, x1, rfl⟩, u2, u3, fun f hf => ?_⟩
  rw [BitVec.getLsbD_or, Bool.or_eq_true, one_bit, x2 f (by omega)]
  constructor
  · rintro (h | ⟨h, _⟩)
    · exact .inr h
    · exact .inl (by omega)
  · rintro (h | h)
    · exact .inr ⟨by omega, by omega⟩
    · exact .inl h
theorem rep_get (n i : Nat) (x : W32) (h : i < n) : List.getD (List.replicate n x) i 0#32 = x := by simp [List.getD, List.getElem?_replicate, h]
theorem getD_el {α : Type} (l : List α) (i : Nat) (d : α) (h : i < l.length) : List.getD l i d = l[i] := by simp [List.getD, h]
def secPop (s : api_Section) : Nat := pop s.entry + pop s.exit + pops s.held
def meas (l : List api_Section) : Nat := (l.map secPop).sum
theorem meas_set : ∀ (l : List api_Section) (i : Nat) (s : api_Section), i < l.length → meas (l.set i s) + secPop (List.getD l i d_api_Section) = meas l + secPop s
  | a :: l, 0, s, h => by simp [meas]; omega
  | a :: l, i + 1, s, h => by
    have := meas_set l i s (by simpa using h)
    simp [meas] at this ⊢
    omega
theorem sec_set (l : List api_Section) (i : Nat) (s : api_Section) (hi : i < l.length) (j : Nat) : sec (l.set i s) j = if j = i then s else sec l j := by
  unfold sec
  by_cases h : j = i
  · subst h; simp [List.getD, hi]
  · have : i ≠ j := fun e => h e.symm
    rw [if_neg h]
    simp [List.getD, List.getElem?_set, this]
theorem getW_set (h : List W32) (i : Nat) (x : W32) (hi : i < h.length) (j : Nat) : List.getD (h.set i x) j 0#32 = if j = i then x else List.getD h j 0#32 := by
  by_cases e : j = i
  · subst e; simp [List.getD, hi]
  · have : i ≠ j := fun e' => e e'.symm
    rw [if_neg e]
    simp [List.getD, List.getElem?_set, this]
theorem popsW_set (h : List W32) (i : Nat) (x : W32) (hi : i < h.length) : pops (h.set i x) + pop (List.getD h i 0#32) = pops h + pop x := by
  have := pops_set h i x hi
  rw [show List.getD h i 0#32 = h[i] by simp [List.getD, hi]]
  exact this
/-- Sections between what is found and all locks. -/
structure Mid2 (p : api_Program) (t l : List api_Section) : Prop where
  shp : Shp p l
  e : ∀ f, f < p.funcs.length → sub (sec t f).entry (sec l f).entry ∧ sub (sec l f).entry (topL p)
  x : ∀ f, f < p.funcs.length → sub (sec t f).exit (sec l f).exit ∧ sub (sec l f).exit (topL p)
  h : ∀ f i, f < p.funcs.length → i < (List.getD p.funcs f []).length → sub (hld t f i) (hld l f i) ∧ sub (hld l f i) (topL p)
theorem mid_set {p : api_Program} {t l : List api_Section} (hm : Mid2 p t l) {f : Nat} (hf : f < p.funcs.length) {s : api_Section} (h1 : s.held.length = (sec l f).held.length) (h2 : s.live.length = (sec l f).live.length) (he : sub (sec t f).entry s.entry ∧ sub s.entry (sec l f).entry) (hx : sub (sec t f).exit s.exit ∧ sub s.exit (sec l f).exit) (hh : ∀ i, i < (List.getD p.funcs f []).length → sub (hld t f i) (List.getD s.held i 0#32) ∧ sub (List.getD s.held i 0#32) (hld l f i)) : Mid2 p t (l.set f s) := by
  have hl := hm.shp.1
  have hs := sec_set l f s (by omega)
  refine ⟨⟨by rw [List.length_set]; exact hl, fun g hg => ?_⟩, fun g hg => ?_, fun g hg => ?_, fun g i hg hi => ?_⟩
  · rw [hs]
    split
    · rename_i e; subst e; rw [h1, h2]; exact hm.shp.2 g hg
    · exact hm.shp.2 g hg
  · rw [hs]
    split
    · rename_i e; subst e; exact ⟨he.1, he.2.trans (hm.e g hg).2⟩
    · exact hm.e g hg
  · rw [hs]
    split
    · rename_i e; subst e; exact ⟨hx.1, hx.2.trans (hm.x g hg).2⟩
    · exact hm.x g hg
  · unfold hld
    rw [hs]
    split
    · rename_i e; subst e; exact ⟨(hh i hi).1, (hh i hi).2.trans (hm.h g i hg hi).2⟩
    · exact hm.h g i hg hi
theorem set_e {p : api_Program} {t l : List api_Section} (hm : Mid2 p t l) {f : Nat} (hf : f < p.funcs.length) {x : W32} (h1 : sub (sec t f).entry x) (h2 : sub x (sec l f).entry) (hne : x ≠ (sec l f).entry) : Mid2 p t (l.set f ⟨x, (sec l f).exit, (sec l f).held, (sec l f).liveEntry, (sec l f).liveExit, (sec l f).live⟩) ∧ meas (l.set f ⟨x, (sec l f).exit, (sec l f).held, (sec l f).liveEntry, (sec l f).liveExit, (sec l f).live⟩) < meas l := by
  have hl := hm.shp.1
  refine ⟨mid_set hm hf rfl rfl ⟨h1, h2⟩ ⟨(hm.x f hf).1, sub.refl _⟩ fun i hi => ⟨(hm.h f i hf hi).1, sub.refl _⟩, ?_⟩
  have h3 := meas_set l f ⟨x, (sec l f).exit, (sec l f).held, (sec l f).liveEntry, (sec l f).liveExit, (sec l f).live⟩ (by omega)
  have h4 := pop_lt h2 hne
  unfold secPop at h3
  simp only [] at h3
  unfold sec at h3 h4 ⊢
  omega
theorem set_x {p : api_Program} {t l : List api_Section} (hm : Mid2 p t l) {f : Nat} (hf : f < p.funcs.length) {x : W32} (h1 : sub (sec t f).exit x) (h2 : sub x (sec l f).exit) (hne : x ≠ (sec l f).exit) : Mid2 p t (l.set f ⟨(sec l f).entry, x, (sec l f).held, (sec l f).liveEntry, (sec l f).liveExit, (sec l f).live⟩) ∧ meas (l.set f ⟨(sec l f).entry, x, (sec l f).held, (sec l f).liveEntry, (sec l f).liveExit, (sec l f).live⟩) < meas l := by
  have hl := hm.shp.1
  refine ⟨mid_set hm hf rfl rfl ⟨(hm.e f hf).1, sub.refl _⟩ ⟨h1, h2⟩ fun i hi => ⟨(hm.h f i hf hi).1, sub.refl _⟩, ?_⟩
  have h3 := meas_set l f ⟨(sec l f).entry, x, (sec l f).held, (sec l f).liveEntry, (sec l f).liveExit, (sec l f).live⟩ (by omega)
  have h4 := pop_lt h2 hne
  unfold secPop at h3
  simp only [] at h3
  unfold sec at h3 h4 ⊢
  omega
/-- A node's set made less. -/
def cutH (l : List api_Section) (f i : Nat) (x : W32) : List api_Section := l.set f ⟨(sec l f).entry, (sec l f).exit, List.set (sec l f).held i x, (sec l f).liveEntry, (sec l f).liveExit, (sec l f).live⟩
theorem set_h {p : api_Program} {t l : List api_Section} (hm : Mid2 p t l) {f i : Nat} (hf : f < p.funcs.length) (hi : i < (List.getD p.funcs f []).length) {x : W32} (h1 : sub (hld t f i) x) (h2 : sub x (hld l f i)) : Mid2 p t (cutH l f i x) ∧ meas (cutH l f i x) ≤ meas l ∧ (x ≠ hld l f i → meas (cutH l f i x) < meas l) ∧ (x = hld l f i → cutH l f i x = l) := by
  have hl := hm.shp.1
  have hh := (hm.shp.2 f hf).1
  have h3 := meas_set l f ⟨(sec l f).entry, (sec l f).exit, List.set (sec l f).held i x, (sec l f).liveEntry, (sec l f).liveExit, (sec l f).live⟩ (by omega)
  have h5 := popsW_set (sec l f).held i x (by omega)
  have h6 := pop_le h2
  unfold secPop at h3
  simp only [] at h3
  refine ⟨mid_set hm hf (by simp) rfl ⟨(hm.e f hf).1, sub.refl _⟩ ⟨(hm.x f hf).1, sub.refl _⟩ fun j hj => ?_, ?_, fun hne => ?_, fun e => ?_⟩
  · rw [getW_set _ _ _ (by omega)]
    split
    · rename_i e; subst e; exact ⟨h1, h2⟩
    · exact ⟨(hm.h f j hf hj).1, sub.refl _⟩
  · unfold cutH
    unfold hld sec at h6
    unfold sec at h3 h5 ⊢
    omega
  · have h4 := pop_lt h2 hne
    unfold cutH
    unfold hld sec at h4
    unfold sec at h3 h5 ⊢
    omega
  · unfold cutH
    rw [e]
    have hfl : f < l.length := by omega
    have g1 : (sec l f).held.set i (hld l f i) = (sec l f).held := by
      unfold hld
      rw [show List.getD (sec l f).held i 0#32 = (sec l f).held[i]'(by omega) from getD_el _ _ _ _]
      exact List.set_getElem_self _
    rw [g1]
    show l.set f (sec l f) = l
    unfold sec
    rw [show List.getD l f d_api_Section = l[f] by simp [List.getD, hfl]]
    exact List.set_getElem_self _
theorem fault_cases {p : api_Program} {l : List api_Section} {u : List W32} {fm : W32} (h : (checkW p l u fm).what ≠ 0) : ∃ f : Nat, f < l.length ∧ ((checkW p l u fm = ⟨f, -1, 2⟩ ∧ fm.getLsbD f = true ∧ (sec l f).entry ≠ 0#32) ∨ (checkW p l u fm = ⟨f, -1, 3⟩ ∧ ¬ subb (hld l f 0) (sec l f).entry = true) ∨ ∃ i : Nat, i < (List.getD p.funcs f []).length ∧ ((checkW p l u fm = ⟨f, i, 5⟩ ∧ (nde p f i).kind = 7 ∧ ¬ subb (sec l (nde p f i).arg.toNat).entry (hld l f i) = true) ∨ (checkW p l u fm = ⟨f, i, 4⟩ ∧ (nde p f i).kind = 9 ∧ ¬ subb (sec l f).exit (hld l f i) = true) ∨ (checkW p l u fm = ⟨f, i, 3⟩ ∧ ¬ (succ (nde p f i)).all (fun y => subb (hld l f y.toNat) (bhd u l (nde p f i) (hld l f i))) = true))) := by
  cases hq : findO (funcO p l u fm) 0 l.length with
  | none =>
    unfold checkW at h
    rw [hq] at h
    exact absurd rfl h
  | some y =>
    obtain ⟨f, k, w⟩ := y
    have hc : checkW p l u fm = ⟨f, k, w⟩ := by
      unfold checkW
      rw [hq]
    obtain ⟨_, h1, h2⟩ := findO_some hq
    have hfl : f < l.length := by
      have : f < 0 + l.length := h1
      omega
    refine ⟨f, hfl, ?_⟩
    have hw : funcW p l u fm f = (k, w) := by
      unfold funcO at h2
      split at h2
      · cases h2
      · exact Option.some.inj h2
    rw [hc]
    by_cases c1 : fm.getLsbD f = true ∧ (sec l f).entry ≠ 0#32
    · rw [funcW_2 c1] at hw
      cases hw
      exact .inl ⟨rfl, c1⟩
    · by_cases c2 : subb (hld l f 0) (sec l f).entry = true
      · rw [funcW_r c1 c2] at hw
        cases hq2 : findO (nodeO p l u f) 0 (List.getD p.funcs f []).length with
        | none =>
          rw [hq2] at hw
          cases hw
          rw [hc] at h
          exact absurd rfl h
        | some z =>
          obtain ⟨i, w2⟩ := z
          rw [hq2] at hw
          obtain ⟨_, g1, g2⟩ := findO_some hq2
          have hi : i < (List.getD p.funcs f []).length := by
            have : i < 0 + (List.getD p.funcs f []).length := g1
            omega
          have hn : nodeW p l u f i = w2 := by
            unfold nodeO at g2
            split at g2
            · cases g2
            · exact Option.some.inj g2
          have hn0 : nodeW p l u f i ≠ 0 := by
            unfold nodeO at g2
            split at g2
            · cases g2
            · assumption
          cases hw
          refine .inr (.inr ⟨i, hi, ?_⟩)
          by_cases d1 : (nde p f i).kind = 7 ∧ ¬ subb (sec l (nde p f i).arg.toNat).entry (hld l f i) = true
          · rw [nodeW_5 d1.1 d1.2] at hn
            subst hn
            exact .inl ⟨rfl, d1⟩
          · by_cases d2 : (nde p f i).kind = 9 ∧ ¬ subb (sec l f).exit (hld l f i) = true
            · rw [nodeW_4 d2.1 d2.2] at hn
              subst hn
              exact .inr (.inl ⟨rfl, d2⟩)
            · have e := nodeW_r (p := p) (l := l) (u := u) (f := f) (i := i) (fun hk => Classical.byContradiction fun hs => d1 ⟨hk, hs⟩) (fun hk => Classical.byContradiction fun hs => d2 ⟨hk, hs⟩)
              by_cases d3 : (succ (nde p f i)).all (fun y => subb (hld l f y.toNat) (bhd u l (nde p f i) (hld l f i))) = true
              · rw [if_pos d3] at e
                exact absurd e hn0
              · rw [if_neg d3] at e
                rw [e] at hn
                subst hn
                exact .inr (.inr ⟨rfl, d3⟩)
      · rw [funcW_3 c1 c2] at hw
        cases hw
        exact .inr (.inl ⟨rfl, c2⟩)
theorem keep_l43 (p : api_Program) (hg : Good p) (l : List api_Section) (hs : Shp p l) {u : List W32} {fm : W32} (hkn : Know p u fm) (f i : Nat) (hf : f < p.funcs.length) (hi : i < (List.getD p.funcs f []).length) (x : api_Node) (hx : x.kind = 7 → 0 ≤ x.arg ∧ x.arg < p.funcs.length) (js : List Int) (k : Nat) (hk : k < js.length) (y : Nat) (hy : List.getD js k 0 = (y : Int)) (hyl : y < (List.getD p.funcs f []).length) (x7 x9 : Int) (x10 x11 x13 x14 : W32) (x15 : Nat) (x20 : Int) : ∀ (m lk : Nat) (t : List Int), lk + m = 32 → t.length ≤ lk → ∃ s, alibiref22_Find_l43 l js t p.globals p.locks p.slots p.funcs x7 (i : Int) x9 x10 x11 f x13 x14 x15 x.kind x.arg x.next x.alt x20 (k : Int) (lk : Int) = some (t ++ s) ∧ Rises lk s ∧ ∀ b : Nat, (b : Int) ∈ s ↔ lk ≤ b ∧ b < 32 ∧ (hld l f y).getLsbD b = true ∧ (bhd u l x (hld l f i)).getLsbD b = true
  | 0, lk, t, h, ht => by
    rw [alibiref22_Find_l43, if_neg (by simp only [decide_eq_true_eq]; omega)]
    exact ⟨[], by simp, trivial, fun b => by simp; omega⟩
  | m + 1, lk, t, h, ht => by
    have hl := hs.1
    have hh : (List.getD l f d_api_Section).held.length = (List.getD p.funcs f []).length := (hs.2 f hf).1
    have hlk : lk < 32 := by omega
    have ea : alibiref03_Has (List.getD (List.getD l f d_api_Section).held y 0#32) (lk : Int) = some ((hld l f y).getLsbD lk) := by rw [refhas_eq, if_pos (by omega), Int.toNat_natCast]
    have eb : alibiref03_Has (List.getD (List.getD l f d_api_Section).held i 0#32) (lk : Int) = some ((hld l f i).getLsbD lk) := by rw [refhas_eq, if_pos (by omega), Int.toNat_natCast]
    have ec := refbehind_eq p hg l hl hkn x hx lk hlk (hld l f i)
    rw [alibiref22_Find_l43, if_pos (decide_eq_true (by omega)), if_pos (decide_eq_true (by omega)), if_pos (decide_eq_true (by omega)), Int.toNat_natCast k, hy, if_pos (decide_eq_true (by omega)), if_pos (decide_eq_true (by omega)), Int.toNat_natCast y, bind_some ea, inc lk (by omega)]
    have skip : ¬ ((hld l f y).getLsbD lk = true ∧ (bhd u l x (hld l f i)).getLsbD lk = true) → ∃ s, alibiref22_Find_l43 l js t p.globals p.locks p.slots p.funcs x7 (i : Int) x9 x10 x11 f x13 x14 x15 x.kind x.arg x.next x.alt x20 (k : Int) ((lk + 1 : Nat) : Int) = some (t ++ s) ∧ Rises lk s ∧ ∀ b : Nat, (b : Int) ∈ s ↔ lk ≤ b ∧ b < 32 ∧ (hld l f y).getLsbD b = true ∧ (bhd u l x (hld l f i)).getLsbD b = true := by
      intro hno
      obtain ⟨s, q1, q2, q3⟩ := keep_l43 p hg l hs hkn f i hf hi x hx js k hk y hy hyl x7 x9 x10 x11 x13 x14 x15 x20 m (lk + 1) t (by omega) (by omega)
      refine ⟨s, q1, q2.mono (by omega), fun b => ?_⟩
      rw [q3]
      constructor
      · rintro ⟨h1, h2⟩; exact ⟨by omega, h2⟩
      · rintro ⟨h1, h2, h3⟩
        rcases Nat.eq_or_lt_of_le h1 with rfl | h4
        · exact absurd h3 hno
        · exact ⟨h4, h2, h3⟩
    by_cases c1 : (hld l f y).getLsbD lk = true
    · rw [if_pos c1, if_pos (decide_eq_true (by omega)), if_pos (decide_eq_true (by omega)), Int.toNat_natCast i, bind_some eb, bind_some (show alibiref15_Behind (api_Program.mk p.globals p.locks p.slots p.funcs) l (api_Node.mk x.kind x.arg x.next x.alt) (lk : Int) _ = _ from ec)]
      by_cases c2 : (bhd u l x (hld l f i)).getLsbD lk = true
      · rw [if_pos c2, if_pos (Nat.ble_eq_true_of_le (by simp only [List.length_singleton, reach]; omega))]
        obtain ⟨s, q1, q2, q3⟩ := keep_l43 p hg l hs hkn f i hf hi x hx js k hk y hy hyl x7 x9 x10 x11 x13 x14 x15 x20 m (lk + 1) (t ++ [(lk : Int)]) (by omega) (by simp; omega)
        refine ⟨(lk : Int) :: s, by rw [q1]; simp, ⟨Int.le_refl _, by omega, by rw [Int.toNat_natCast]; exact q2⟩, fun b => ?_⟩
        rw [List.mem_cons, q3]
        constructor
        · rintro (h1 | ⟨h1, h2⟩)
          · have : b = lk := by omega
            subst this
            exact ⟨Nat.le_refl _, by omega, c1, c2⟩
          · exact ⟨by omega, h2⟩
        · rintro ⟨h1, h2⟩
          rcases Nat.eq_or_lt_of_le h1 with rfl | h4
          · exact .inl rfl
          · exact .inr ⟨h4, h2⟩
      · rw [if_neg c2]
        exact skip fun h => c2 h.2
    · rw [if_neg c1]
      exact skip fun h => c1 h.1
theorem bhd_monoH {u : List W32} {l z : List api_Section} {x : api_Node} {h k : W32} (hh : sub h k) (hx : x.kind = 7 → sub (List.getD l x.arg.toNat d_api_Section).exit (List.getD z x.arg.toNat d_api_Section).exit) : sub (bhd u l x h) (bhd u z x k) := by
  unfold bhd
  intro i hi
  by_cases h3 : x.kind = 3
  · rw [if_pos h3] at hi ⊢
    rw [BitVec.getLsbD_or, Bool.or_eq_true] at hi ⊢
    exact hi.imp_left (hh i)
  rw [if_neg h3] at hi ⊢
  by_cases h4 : x.kind = 4
  · rw [if_pos h4] at hi ⊢
    rw [BitVec.getLsbD_and, Bool.and_eq_true] at hi ⊢
    exact ⟨hh i hi.1, hi.2⟩
  rw [if_neg h4] at hi ⊢
  by_cases h7 : x.kind = 7
  · rw [if_pos h7] at hi ⊢
    rw [BitVec.getLsbD_or, Bool.or_eq_true, BitVec.getLsbD_and, Bool.and_eq_true] at hi ⊢
    exact hi.imp (fun a => ⟨hh i a.1, a.2⟩) (hx h7 i)
  · rw [if_neg h7] at hi ⊢
    exact hh i hi
theorem keep_l39 (p : api_Program) (hg : Good p) {t : List api_Section} (ht : Shp p t) {u : List W32} {fm : W32} (hkn : Know p u fm) (hF : Fine p t u fm) (f i : Nat) (hf : f < p.funcs.length) (hi : i < (List.getD p.funcs f []).length) (x6 x8 : Int) (x9 x10 x12 x13 : W32) (x19 : Int) : ∀ (m k : Nat) (l : List api_Section), k + m = (succ (nde p f i)).length → Mid2 p t l → ∃ l', alibiref22_Find_l39 l (succ (nde p f i)) p.globals p.locks p.slots p.funcs x6 (i : Int) x8 x9 x10 f x12 x13 f (nde p f i).kind (nde p f i).arg (nde p f i).next (nde p f i).alt x19 (k : Int) = some l' ∧ Mid2 p t l' ∧ meas l' ≤ meas l ∧ (meas l' = meas l → ∀ y ∈ (succ (nde p f i)).drop k, subb (hld l f y.toNat) (bhd u l (nde p f i) (hld l f i)) = true)
  | 0, k, l, h, hm => by
    have hsl := succ_len (nde p f i)
    rw [alibiref22_Find_l39, if_neg (by simp only [decide_eq_true_eq]; omega), List.drop_eq_nil_of_le (by omega)]
    exact ⟨l, rfl, hm, Nat.le_refl _, fun _ y hy => by cases hy⟩
  | m + 1, k, l, h, hm => by
    have hsl := succ_len (nde p f i)
    have hok := hg.node f i hf hi
    have hjr := succ_ok hok (by omega)
    have hlt : k < (succ (nde p f i)).length := by omega
    have hr := hjr _ (List.getElem_mem hlt)
    obtain ⟨y, hy⟩ : ∃ y : Nat, (succ (nde p f i))[k] = (y : Int) := ⟨(succ (nde p f i))[k].toNat, by omega⟩
    have hgy : List.getD (succ (nde p f i)) k 0 = (y : Int) := by rw [← hy]; exact getD_el _ _ _ hlt
    rw [show (succ (List.getD (List.getD p.funcs f []) i d_api_Node))[k] = (y : Int) from hy] at hr
    have hyl : y < (List.getD p.funcs f []).length := by omega
    have hh : (List.getD l f d_api_Section).held.length = (List.getD p.funcs f []).length := (hm.shp.2 f hf).1
    obtain ⟨s, q1, q2, q3⟩ := keep_l43 p hg l hm.shp hkn f i hf hi (nde p f i) hok.call (succ (nde p f i)) k hlt y hgy hyl x6 x8 x9 x10 x12 x13 f x19 32 0 [] rfl (Nat.le_refl _)
    rw [show ((0 : Nat) : Int) = 0 from rfl, List.nil_append] at q1
    obtain ⟨w, w1, w2⟩ := mask_eq s (by have := q2.length_le (by omega); omega) q2
    have hw : w = hld l f y &&& bhd u l (nde p f i) (hld l f i) := by
      apply BitVec.eq_of_getLsbD_eq
      intro b hb
      rw [Bool.eq_iff_iff, w2, q3, BitVec.getLsbD_and, Bool.and_eq_true]
      exact ⟨fun h => h.2.2, fun h => ⟨Nat.zero_le _, hb, h⟩⟩
    have hlow : sub (hld t f y) w := by
      rw [hw]
      refine sub_and (hm.h f y hf hyl).1 ?_
      have h1 := List.all_eq_true.1 (nodeW_iff.1 ((hF f hf).2.2 i hi)).2.2 (y : Int) (by rw [← hy]; exact List.getElem_mem hlt)
      rw [Int.toNat_natCast] at h1
      refine sub.trans (subb_iff.1 h1) (bhd_monoH (hm.h f i hf hi).1 fun h7 => ?_)
      have ha : 0 ≤ (nde p f i).arg ∧ (nde p f i).arg < p.funcs.length := hok.call h7
      exact (hm.x _ (by omega)).1
    obtain ⟨g1, g2, g3, g4⟩ := set_h hm hf hyl hlow (by rw [hw]; exact and_sub_l _ _)
    have hlf : f < l.length := by have := hm.shp.1; omega
    have e1 : List.length (List.getD (List.set l f (api_Section.mk (List.getD l f d_api_Section).entry (List.getD l f d_api_Section).exit (List.set (List.getD l f d_api_Section).held y w) (List.getD l f d_api_Section).liveEntry (List.getD l f d_api_Section).liveExit (List.getD l f d_api_Section).live)) f d_api_Section).held = List.length (List.getD l f d_api_Section).held := by
      rw [show List.getD (List.set l f (api_Section.mk (List.getD l f d_api_Section).entry (List.getD l f d_api_Section).exit (List.set (List.getD l f d_api_Section).held y w) (List.getD l f d_api_Section).liveEntry (List.getD l f d_api_Section).liveExit (List.getD l f d_api_Section).live)) f d_api_Section = _ from sec_set l f _ hlf f, if_pos rfl]
      simp
    have e2 : List.length (List.getD (List.set l f (api_Section.mk (List.getD l f d_api_Section).entry (List.getD l f d_api_Section).exit (List.set (List.getD l f d_api_Section).held y w) (List.getD l f d_api_Section).liveEntry (List.getD l f d_api_Section).liveExit (List.getD l f d_api_Section).live)) f d_api_Section).live = List.length (List.getD l f d_api_Section).live := by
      rw [show List.getD (List.set l f (api_Section.mk (List.getD l f d_api_Section).entry (List.getD l f d_api_Section).exit (List.set (List.getD l f d_api_Section).held y w) (List.getD l f d_api_Section).liveEntry (List.getD l f d_api_Section).liveExit (List.getD l f d_api_Section).live)) f d_api_Section = _ from sec_set l f _ hlf f, if_pos rfl]
    rw [alibiref22_Find_l39, if_pos (decide_eq_true (by omega)), bind_some q1, if_pos (decide_eq_true (by omega)), if_pos (decide_eq_true (by omega)), bind_some w1, Int.toNat_natCast k, hgy, if_pos (decide_eq_true (by omega)), if_pos (decide_eq_true (by omega)), if_pos (decide_eq_true hlf), Int.toNat_natCast y, if_pos (decide_eq_true e1), if_pos (decide_eq_true e2), inc k (by omega)]
    obtain ⟨l', k1, k2, k3, k4⟩ := keep_l39 p hg ht hkn hF f i hf hi x6 x8 x9 x10 x12 x13 x19 m (k + 1) (cutH l f y w) (by omega) g1
    refine ⟨l', k1, k2, by omega, fun e => ?_⟩
    have hwe : w = hld l f y := Classical.byContradiction fun hne => by
      have := g3 hne
      omega
    have hle := g4 hwe
    rw [hle] at k4 k3
    intro z hz
    rw [List.drop_eq_getElem_cons hlt] at hz
    rcases List.mem_cons.1 hz with h5 | h5
    · rw [h5, hy, Int.toNat_natCast]
      refine subb_iff.2 ?_
      have h6 : sub w (bhd u l (nde p f i) (hld l f i)) := by rw [hw]; exact and_sub_r _ _
      rw [hwe] at h6
      exact h6
    · exact k4 e z h5
theorem sub_ne {a b : W32} (h : ¬ subb a b = true) : a &&& b ≠ a := fun e => h (subb_iff.2 (by rw [← e]; exact and_sub_r _ _))
theorem find_l19 (p : api_Program) (hg : Good p) {t : List api_Section} (ht : Shp p t) {u : List W32} {fm : W32} (hkn : Know p u fm) (hF : Fine p t u fm) : ∀ (m r : Nat) (l : List api_Section), meas l ≤ m → r + m < 200000 → Mid2 p t l → ∃ l', alibiref22_Find_l19 l p.globals p.locks p.slots p.funcs (r : Int) = some (.x0 l') ∧ Mid2 p t l' ∧ Fine p l' u fm
  | m, r, l, hm, hr, hmid => by
    have hs := hmid.shp
    have hll := hs.1
    have hn := hg.funcs
    have step : ∀ l2, Mid2 p t l2 → meas l2 < meas l → ∃ l', alibiref22_Find_l19 l2 p.globals p.locks p.slots p.funcs (iAdd (r : Int) 1) = some (.x0 l') ∧ Mid2 p t l' ∧ Fine p l' u fm := fun l2 h1 h2 => by
      match m, hm, hr with
      | 0, hm, hr => omega
      | m + 1, hm, hr =>
        rw [inc r (by omega)]
        exact find_l19 p hg ht hkn hF m (r + 1) l2 (by omega) (by omega) h1
    rw [alibiref22_Find_l19, if_pos (decide_eq_true (by omega)), bind_some ((refcheck_eq p hg l hkn).1 hs)]
    by_cases hw : (checkW p l u fm).what = 0
    · rw [if_pos (eqT hw)]
      exact ⟨l, rfl, hmid, fine_to hs.1 hw⟩
    · rw [if_neg (eqF hw)]
      obtain ⟨f, hfl, hcase⟩ := fault_cases hw
      have hf : f < p.funcs.length := by omega
      have hh : (List.getD l f d_api_Section).held.length = (List.getD p.funcs f []).length := (hs.2 f hf).1
      have hpos := (hg.len f hf).1
      rcases hcase with ⟨e, c1, c2⟩ | ⟨e, c1⟩ | ⟨i, hi, ⟨e, c1, c2⟩ | ⟨e, c1, c2⟩ | ⟨e, c1⟩⟩
      · rw [e]
        simp only []
        rw [if_pos (decide_eq_true (by omega)), if_pos (decide_eq_true (by omega)), if_pos (by decide), Int.toNat_natCast f]
        have h0 : (sec t f).entry = 0#32 := Classical.byContradiction fun hne => (hF f hf).1 ⟨c1, hne⟩
        obtain ⟨g1, g2⟩ := set_e hmid hf (x := 0#32) (by rw [h0]; exact sub.refl _) (fun i hi => by simp at hi) (fun e => c2 e.symm)
        exact step _ g1 g2
      · rw [e]
        simp only []
        rw [if_pos (decide_eq_true (by omega)), if_pos (decide_eq_true (by omega)), if_neg (by decide), if_neg (by decide), if_neg (by decide), if_pos (by decide), if_pos (show decide ((-1 : Int) < 0) = true from rfl), Int.toNat_natCast f, if_pos (decide_eq_true (by omega))]
        obtain ⟨g1, g2, g3, g4⟩ := set_h hmid hf hpos (x := hld l f 0 &&& (sec l f).entry) (sub_and (hmid.h f 0 hf hpos).1 (sub.trans (subb_iff.1 (hF f hf).2.1) (hmid.e f hf).1)) (and_sub_l _ _)
        exact step _ g1 (g3 (sub_ne c1))
      · rw [e]
        simp only []
        have ha := (hg.node f i hf hi).call c1
        have h7 := (nodeW_iff.1 ((hF f hf).2.2 i hi)).1 c1
        obtain ⟨a, ha2⟩ : ∃ a : Nat, (List.getD (List.getD p.funcs f []) i d_api_Node).arg = (a : Int) := ⟨(List.getD (List.getD p.funcs f []) i d_api_Node).arg.toNat, by omega⟩
        have ha3 : (nde p f i).arg.toNat = a := by rw [show (nde p f i).arg = (a : Int) from ha2]; rfl
        rw [ha3] at c2 h7
        rw [ha2] at ha
        rw [if_pos (decide_eq_true (by omega)), if_pos (decide_eq_true (by omega)), if_neg (by decide), if_pos (by decide), if_pos (decide_eq_true (by omega)), if_pos (decide_eq_true (by omega)), Int.toNat_natCast f, if_pos (decide_eq_true (by omega)), Int.toNat_natCast i, ha2, if_pos (decide_eq_true (by omega)), if_pos (decide_eq_true (by omega)), if_pos (decide_eq_true (by omega)), Int.toNat_natCast a]
        obtain ⟨g1, g2⟩ := set_e hmid (f := a) (by omega) (x := (sec l a).entry &&& hld l f i) (sub_and (hmid.e a (by omega)).1 (sub.trans (subb_iff.1 h7) (hmid.h f i hf hi).1)) (and_sub_l _ _) (sub_ne c2)
        exact step _ g1 g2
      · rw [e]
        simp only []
        have h9 := (nodeW_iff.1 ((hF f hf).2.2 i hi)).2.1 c1
        rw [if_pos (decide_eq_true (by omega)), if_pos (decide_eq_true (by omega)), if_neg (by decide), if_neg (by decide), if_pos (by decide), if_pos (decide_eq_true (by omega)), Int.toNat_natCast f, if_pos (decide_eq_true (by omega)), Int.toNat_natCast i]
        obtain ⟨g1, g2⟩ := set_x hmid hf (x := (sec l f).exit &&& hld l f i) (sub_and (hmid.x f hf).1 (sub.trans (subb_iff.1 h9) (hmid.h f i hf hi).1)) (and_sub_l _ _) (sub_ne c2)
        exact step _ g1 g2
      · rw [e]
        simp only []
        obtain ⟨l', k1, k2, k3, k4⟩ := keep_l39 p hg ht hkn hF f i hf hi (f : Int) 3 (sec l f).entry (sec l f).exit (sec l f).liveEntry (sec l f).liveExit (r : Int) (succ (nde p f i)).length 0 l (Nat.zero_add _) hmid
        rw [show ((0 : Nat) : Int) = 0 from rfl] at k1
        rw [if_pos (decide_eq_true (by omega)), if_pos (decide_eq_true (by omega)), if_neg (by decide), if_neg (by decide), if_neg (by decide), if_pos (by decide), if_neg (by simp only [decide_eq_true_eq]; omega), if_pos (decide_eq_true (by omega)), if_pos (decide_eq_true (by omega)), Int.toNat_natCast f, if_pos (decide_eq_true (by omega)), Int.toNat_natCast i, bind_some (refsucc_eq _), bind_some k1]
        refine step l' k2 ?_
        rcases Nat.lt_or_ge (meas l') (meas l) with h | h
        · exact h
        · exfalso
          apply c1
          rw [List.all_eq_true]
          exact fun y hy => k4 (by omega) y (by rw [List.drop_zero]; exact hy)
theorem first_l3 (x1 L x3 : Int) (x4 : FS) (n : Nat) (hL : L = (n : Int)) (hn : n ≤ 32) : ∀ (m i : Nat) (t : List Int), i + m = n → t.length ≤ i → ∃ s, alibiref22_Find_l3 t x1 L x3 x4 (i : Int) = some (t ++ s) ∧ Rises i s ∧ ∀ b : Nat, (b : Int) ∈ s ↔ i ≤ b ∧ b < n
  | 0, i, t, h, ht => by
    rw [alibiref22_Find_l3, if_neg (by simp only [decide_eq_true_eq]; omega)]
    exact ⟨[], by simp, trivial, fun b => by simp; omega⟩
  | m + 1, i, t, h, ht => by
    rw [alibiref22_Find_l3, if_pos (decide_eq_true (by omega)), if_pos (Nat.ble_eq_true_of_le (by simp only [List.length_singleton, reach]; omega)), inc i (by omega)]
    obtain ⟨s, q1, q2, q3⟩ := first_l3 x1 L x3 x4 n hL hn m (i + 1) (t ++ [(i : Int)]) (by omega) (by simp; omega)
    refine ⟨(i : Int) :: s, by rw [q1]; simp, ⟨Int.le_refl _, by omega, by rw [Int.toNat_natCast]; exact q2⟩, fun b => ?_⟩
    rw [List.mem_cons, q3]
    constructor
    · rintro (h1 | h1)
      · omega
      · omega
    · rintro ⟨h1, h2⟩
      rcases Nat.eq_or_lt_of_le h1 with rfl | h4
      · exact .inl rfl
      · exact .inr ⟨h4, h2⟩
theorem topL_bit (p : api_Program) (h0 : 0 ≤ p.locks) (h1 : p.locks ≤ 16) (b : Nat) : (topL p).getLsbD b = true ↔ (b : Int) < p.locks := by
  obtain ⟨n, hn⟩ : ∃ n : Nat, p.locks = (n : Int) := ⟨p.locks.toNat, by omega⟩
  unfold topL
  rw [hn, Int.toNat_natCast]
  have hn16 : n ≤ 16 := by omega
  have key : ∀ n : Nat, n ≤ 16 → ∀ b : Nat, b < 32 → (BitVec.setWidth 32 (((1#64) <<< n) - 1#64)).getLsbD b = decide (b < n) := by decide +kernel
  rcases Nat.lt_or_ge b 32 with hb | hb
  · rw [key n hn16 b hb, decide_eq_true_eq]
    omega
  · rw [BitVec.getLsbD_of_ge _ _ hb]
    constructor
    · intro h; cases h
    · intro h; omega
theorem begin_l13 (x0 : List api_Section) (x3 x4 x5 : Int) (fs : FS) (hlen : ∀ f, (List.getD fs f []).length ≤ 65536) (x7 x8 x9 x10 a : W32) (f : Nat) (hf : f < fs.length) : ∀ (m i : Nat) (h k : List W32), i + m = (List.getD fs f []).length → h = List.replicate i a → k = List.replicate i 0#32 → alibiref22_Find_l13 x0 h k x3 x4 x5 fs x7 x8 x9 x10 a (f : Int) (i : Int) = some (List.replicate (List.getD fs f []).length a, List.replicate (List.getD fs f []).length 0#32)
  | 0, i, h, k, hi, h1, h2 => by
    rw [alibiref22_Find_l13, if_pos (decide_eq_true (by omega)), if_pos (decide_eq_true (by omega)), Int.toNat_natCast f, if_neg (by simp only [decide_eq_true_eq]; omega), h1, h2, show i = (List.getD fs f []).length by omega]
  | m + 1, i, h, k, hi, h1, h2 => by
    have hl := hlen f
    have e1 : h.length = i := by rw [h1]; simp
    have e2 : k.length = i := by rw [h2]; simp
    rw [alibiref22_Find_l13, if_pos (decide_eq_true (by omega)), if_pos (decide_eq_true (by omega)), Int.toNat_natCast f, if_pos (decide_eq_true (by omega)), if_pos (Nat.ble_eq_true_of_le (by simp only [List.length_singleton, reach]; omega)), if_pos (Nat.ble_eq_true_of_le (by simp only [List.length_singleton, reach]; omega)), inc i (by omega)]
    exact begin_l13 x0 x3 x4 x5 fs hlen x7 x8 x9 x10 a f hf m (i + 1) _ _ (by omega) (by rw [h1, List.replicate_succ']) (by rw [h2, List.replicate_succ'])
theorem begin_l9 (p : api_Program) (hg : Good p) (a : W32) : ∀ (m f : Nat) (t : List api_Section), f + m = p.funcs.length → t.length = f → (∀ g, g < f → sec t g = ⟨a, a, List.replicate (List.getD p.funcs g []).length a, 0#32, 0#32, List.replicate (List.getD p.funcs g []).length 0#32⟩) → ∃ t', alibiref22_Find_l9 t p.globals p.locks p.slots p.funcs a (f : Int) = some t' ∧ t'.length = p.funcs.length ∧ ∀ g, g < p.funcs.length → sec t' g = ⟨a, a, List.replicate (List.getD p.funcs g []).length a, 0#32, 0#32, List.replicate (List.getD p.funcs g []).length 0#32⟩
  | 0, f, t, h, hl, hget => by
    rw [alibiref22_Find_l9, if_neg (by simp only [decide_eq_true_eq]; omega)]
    exact ⟨t, rfl, by omega, fun g hg => hget g (by omega)⟩
  | m + 1, f, t, h, hl, hget => by
    have hn := hg.funcs
    have q := begin_l13 t p.globals p.locks p.slots p.funcs (fun f => by have := hg.le f; omega) a a 0#32 0#32 a f (by omega) (List.getD p.funcs f []).length 0 [] [] (Nat.zero_add _) rfl rfl
    rw [show ((0 : Nat) : Int) = 0 from rfl] at q
    rw [alibiref22_Find_l9, if_pos (decide_eq_true (by omega)), bind_some q, if_pos (Nat.ble_eq_true_of_le (by simp only [List.length_singleton, reach]; omega)), inc f (by omega)]
    refine begin_l9 p hg a m (f + 1) _ (by omega) (by rw [List.length_append, List.length_singleton]; omega) fun g hgf => ?_
    unfold sec
    rw [getD_snoc]
    split
    · rename_i e
      subst e
      rw [hl]
    · exact hget g (by omega)
theorem meas_le {n : Nat} : ∀ l : List api_Section, (∀ s ∈ l, s.held.length ≤ n) → meas l ≤ (64 + 32 * n) * l.length
  | [], _ => by simp [meas]
  | s :: l, h => by
    have h1 := meas_le l fun x hx => h x (List.mem_cons_of_mem _ hx)
    have h2 := h s List.mem_cons_self
    have h3 := pops_le s.held
    have h4 := pop_32 s.entry
    have h5 := pop_32 s.exit
    have h6 : meas (s :: l) = secPop s + meas l := by simp [meas]
    rw [h6, List.length_cons, Nat.mul_succ]
    unfold secPop
    have : 32 * s.held.length ≤ 32 * n := Nat.mul_le_mul_left _ h2
    omega
theorem reffind_eq (p : api_Program) (hg : Good p) {t : List api_Section} (ht : Shp p t) {u : List W32} {fm : W32} (hkn : Know p u fm) (hF : Fine p t u fm) (hte : ∀ f, f < p.funcs.length → sub (sec t f).entry (topL p)) (htx : ∀ f, f < p.funcs.length → sub (sec t f).exit (topL p)) (hth : ∀ f i, f < p.funcs.length → i < (List.getD p.funcs f []).length → sub (hld t f i) (topL p)) : ∃ l', alibiref22_Find p = some l' ∧ Mid2 p t l' ∧ Fine p l' u fm := by
  have hlk := hg.locks
  have hn := hg.funcs
  obtain ⟨n, hnl⟩ : ∃ n : Nat, p.locks = (n : Int) := ⟨p.locks.toNat, by omega⟩
  obtain ⟨s, s1, s2, s3⟩ := first_l3 p.globals p.locks p.slots p.funcs n hnl (by omega) n 0 [] (Nat.zero_add _) (Nat.le_refl _)
  rw [show ((0 : Nat) : Int) = 0 from rfl, List.nil_append] at s1
  obtain ⟨a, a1, a2⟩ := mask_eq s (by have := s2.length_le (by omega); omega) s2
  have ha : a = topL p := by
    apply BitVec.eq_of_getLsbD_eq
    intro b hb
    rw [Bool.eq_iff_iff, a2, s3, topL_bit p hlk.1 hlk.2]
    omega
  rw [ha] at a1
  obtain ⟨l0, b1, b2, b3⟩ := begin_l9 p hg (topL p) p.funcs.length 0 [] (Nat.zero_add _) rfl (fun g h => by omega)
  rw [show ((0 : Nat) : Int) = 0 from rfl] at b1
  have hrep : ∀ g i, g < p.funcs.length → i < (List.getD p.funcs g []).length → hld l0 g i = topL p := fun g i hg hi => by
    show List.getD (sec l0 g).held i 0#32 = _
    rw [b3 g hg]
    exact rep_get _ _ _ hi
  have hmid : Mid2 p t l0 := by
    refine ⟨⟨b2, fun g hg => ?_⟩, fun g hg => ?_, fun g hg => ?_, fun g i hg hi => ?_⟩
    · rw [b3 g hg]; simp
    · rw [b3 g hg]; exact ⟨hte g hg, sub.refl _⟩
    · rw [b3 g hg]; exact ⟨htx g hg, sub.refl _⟩
    · rw [hrep g i hg hi]; exact ⟨hth g i hg hi, sub.refl _⟩
  have hme : meas l0 ≤ (64 + 32 * 64) * l0.length := meas_le l0 fun s hs => by
    obtain ⟨g, hgl, e⟩ := List.mem_iff_getElem.1 hs
    have h1 : sec l0 g = s := by
      rw [← e]
      unfold sec
      simp [List.getD, hgl]
    rw [← h1, b3 g (by omega)]
    show (List.replicate (List.getD p.funcs g []).length (topL p)).length ≤ 64
    rw [List.length_replicate]
    exact hg.le g
  obtain ⟨l', k1, k2, k3⟩ := find_l19 p hg ht hkn hF (meas l0) 0 l0 (Nat.le_refl _) (by omega) hmid
  rw [show ((0 : Nat) : Int) = 0 from rfl] at k1
  unfold alibiref22_Find
  rw [bind_some s1, bind_some a1, bind_some b1, bind_some k1]
  exact ⟨l', rfl, k2, k3⟩
theorem finds_l16 (a l : List api_Section) (f : Nat) (hf : f < l.length) (hfa : f < a.length) (hh : (List.getD a f d_api_Section).held.length = (List.getD l f d_api_Section).held.length) (hn : (List.getD l f d_api_Section).held.length ≤ 65536) (hv : (List.getD a f d_api_Section).live = List.replicate (List.getD l f d_api_Section).held.length 0#32) (h : ∀ i, i < (List.getD l f d_api_Section).held.length → hld a f i = hld l f i) : ∀ (k i : Nat), i + k = (List.getD l f d_api_Section).held.length → alibilaw22_HoldFinds_l16 a l (f : Int) (i : Int) = some .x1
  | 0, i, hi => by
    rw [alibilaw22_HoldFinds_l16, if_pos (decide_eq_true (by omega)), if_pos (decide_eq_true (by omega)), Int.toNat_natCast f, if_neg (by simp only [decide_eq_true_eq]; omega)]
  | k + 1, i, hi => by
    have h1 : List.getD (List.getD a f d_api_Section).held i 0#32 = List.getD (List.getD l f d_api_Section).held i 0#32 := h i (by omega)
    have h2 : (List.getD a f d_api_Section).live.length = (List.getD l f d_api_Section).held.length := by rw [hv, List.length_replicate]
    have h3 : List.getD (List.getD a f d_api_Section).live i 0#32 = 0#32 := by
      rw [hv]
      exact rep_get _ _ _ (by omega)
    rw [alibilaw22_HoldFinds_l16, if_pos (decide_eq_true (by omega)), if_pos (decide_eq_true (by omega)), Int.toNat_natCast f, if_pos (decide_eq_true (by omega)), if_pos (decide_eq_true (by omega)), if_pos (decide_eq_true (by omega)), if_pos (decide_eq_true (by omega)), if_pos (decide_eq_true (by omega)), Int.toNat_natCast i, h1, if_neg (by simp), if_pos (decide_eq_true (by omega)), h3, if_neg (by simp), inc i (by omega)]
    exact finds_l16 a l f hf hfa hh hn hv h k (i + 1) (by omega)
theorem finds_l11 (p : api_Program) (hg : Good p) (v : List W32) (a l : List api_Section) (ha : Shp p a) (hl : Shp p l) (hfo : ∀ g, g < p.funcs.length → Found p v g (sec a g)) (he : ∀ f, f < p.funcs.length → (sec a f).entry = (sec l f).entry) (hx : ∀ f, f < p.funcs.length → (sec a f).exit = (sec l f).exit) (hh : ∀ f i, f < p.funcs.length → i < (List.getD p.funcs f []).length → hld a f i = hld l f i) : ∀ (k f : Nat), f + k = a.length → alibilaw22_HoldFinds_l11 a l (f : Int) = some .x1
  | 0, f, hi => by
    rw [alibilaw22_HoldFinds_l11, if_neg (by simp only [decide_eq_true_eq]; omega)]
  | k + 1, f, hi => by
    have h1 := ha.1
    have h2 := hl.1
    have hn := hg.funcs
    have hle := hg.le f
    have hf : f < p.funcs.length := by omega
    have h3 : (List.getD a f d_api_Section).held.length = (List.getD p.funcs f []).length := (ha.2 f hf).1
    have h4 : (List.getD l f d_api_Section).held.length = (List.getD p.funcs f []).length := (hl.2 f hf).1
    have h5 : (List.getD a f d_api_Section).live.length = (List.getD p.funcs f []).length := (ha.2 f hf).2
    have h6 : (List.getD l f d_api_Section).live.length = (List.getD p.funcs f []).length := (hl.2 f hf).2
    have hF := hfo f hf
    have q := finds_l16 a l f (by omega) (by omega) (by omega) (by omega) (by rw [h4]; exact hF.lv) (fun i hi => hh f i hf (by omega)) (List.getD l f d_api_Section).held.length 0 (Nat.zero_add _)
    rw [show ((0 : Nat) : Int) = 0 from rfl] at q
    rw [alibilaw22_HoldFinds_l11, if_pos (decide_eq_true (by omega)), if_pos (decide_eq_true (by omega)), if_pos (decide_eq_true (by omega)), if_pos (decide_eq_true (by omega)), Int.toNat_natCast f, show (List.getD a f d_api_Section).entry = (List.getD l f d_api_Section).entry from he f hf, if_neg (by simp), show (List.getD a f d_api_Section).exit = (List.getD l f d_api_Section).exit from hx f hf, if_neg (by simp), show (List.getD a f d_api_Section).liveEntry = 0#32 from hF.le, if_neg (by simp), show (List.getD a f d_api_Section).liveExit = 0#32 from hF.lx, if_neg (by simp), if_neg (neF (by omega)), if_neg (neF (by omega)), bind_some q, inc f (by omega)]
    exact finds_l11 p hg v a l ha hl hfo he hx hh k (f + 1) (by omega)
theorem small22_l3 (x0 x1 x2 : Int) (fs : FS) (hn : fs.length ≤ 1000000000000000000) : ∀ (m i : Nat) (s : Int), i + m = fs.length → ∃ s', alibilaw22_small_l3 x0 x1 x2 fs s (i : Int) = some s'
  | 0, i, s, h => by
    rw [alibilaw22_small_l3, if_neg (by simp only [decide_eq_true_eq]; omega)]
    exact ⟨s, rfl⟩
  | m + 1, i, s, h => by
    have e : iAdd (i : Int) 1 = ((i + 1 : Nat) : Int) := by rw [iAdd_eq (by omega) (by omega)]; omega
    rw [alibilaw22_small_l3, if_pos (decide_eq_true (by omega)), if_pos (decide_eq_true (by omega)), if_pos (decide_eq_true (by omega)), e]
    exact small22_l3 x0 x1 x2 fs hn m (i + 1) _ (by omega)
theorem small22_eq (p : api_Program) (hn : p.funcs.length ≤ 1000000000000000000) : ∃ b, alibilaw22_small p = some b := by
  obtain ⟨s, s1⟩ := small22_l3 p.globals p.locks p.slots p.funcs hn p.funcs.length 0 0 (Nat.zero_add _)
  rw [show ((0 : Nat) : Int) = 0 from rfl] at s1
  obtain ⟨b, b1, _⟩ := small_eq p
  unfold alibilaw22_small
  rw [bind_some s1, bind_some b1]
  cases b with
  | true => exact ⟨_, rfl⟩
  | false => exact ⟨_, rfl⟩
theorem holdFinds (p : api_Program) (hn : p.funcs.length ≤ 1000000000000000000) : alibilaw22_HoldFinds p = some true := by
  unfold alibilaw22_HoldFinds
  rw [bind_some awake22, if_neg (by decide)]
  obtain ⟨sm, s1⟩ := small22_eq p hn
  rw [bind_some s1]
  cases sm with
  | false => rw [if_pos (by decide), bind_some awake22]
  | true =>
    rw [if_neg (by decide)]
    obtain ⟨⟨ra, rb, re⟩, r1, r0, r2, _⟩ := check_eq p
    by_cases he : re = 0
    · obtain ⟨r5, hg⟩ := r2 he
      rw [r5] at r1 r0
      obtain ⟨u, fm, h, hkn⟩ := both_know p hg r1
      obtain ⟨v, t, t1, t2, t3, t4, t5⟩ := find_eq p hg h
      obtain ⟨hL, hS⟩ := found_lays t3 t4 t5
      have hk : Keeps (funcsR p u fm 0 p.funcs.length) (base p.funcs p.funcs.length) v := by
        have := t2.keeps
        rw [List.length_replicate] at this
        exact this
      have hF := (keeps_iff hg hL).1 hk
      have hz : ¬ ((0 : Int) != 0) = true := by decide
      have hin : ∀ j : Nat, j < base p.funcs p.funcs.length → sub (gi v (j : Int)) (topL p) := fun j hj => by
        have := t2.sub (j : Int)
        rw [gi_rep (by omega) (by omega)] at this
        exact this
      obtain ⟨w, w1, w2, w3⟩ := reffind_eq p hg hS hkn hF (fun f hf => by
        rw [← hL.ent f hf]
        exact hin _ (base_lt (p := p) hf (k := 0) (by omega))) (fun f hf => by
        rw [← hL.exi f hf]
        exact hin _ (base_lt (p := p) hf (k := 1) (by omega))) (fun f i hf hi => by
        rw [← hL.nod f i hf hi]
        exact hin _ (by have := base_lt (p := p) hf (k := 2 + i) (by omega); omega))
      obtain ⟨z, z1⟩ := lays_ex p w w2.shp
      have hb := best_of t2 z1.len ((keeps_iff hg z1).2 w3)
      have within : ∀ {a b : W32}, sub a (topL p) → sub (topL p &&& a) b → sub a b := fun h1 h2 i hi => h2 i (by rw [BitVec.getLsbD_and, h1 i hi, hi]; rfl)
      rw [bind_some t1, bind_some r0, if_neg hz, bind_some w1, if_neg hz]
      have hwl := w2.shp.1
      rw [if_neg (neF (show ((t.length : Nat) : Int) = ((w.length : Nat) : Int) by omega))]
      have q := finds_l11 p hg v t w hS w2.shp t5 (fun f hf => sub.antisymm (w2.e f hf).1 (within (w2.e f hf).2 (by
        have := hb (base p.funcs f : Int)
        rw [z1.ent f hf, hL.ent f hf] at this
        exact this))) (fun f hf => sub.antisymm (w2.x f hf).1 (within (w2.x f hf).2 (by
        have := hb ((base p.funcs f + 1 : Nat) : Int)
        rw [z1.exi f hf, hL.exi f hf] at this
        exact this))) (fun f i hf hi => sub.antisymm (w2.h f i hf hi).1 (within (w2.h f i hf hi).2 (by
        have := hb ((base p.funcs f + 2 + i : Nat) : Int)
        rw [z1.nod f i hf hi, hL.nod f i hf hi] at this
        exact this))) t.length 0 (Nat.zero_add _)
      rw [show ((0 : Nat) : Int) = 0 from rfl] at q
      rw [bind_some q]
    · rw [bind_some (find_bad p r1 he), bind_some r0, if_pos (neT he), if_pos (by simp)]
      rfl
end Go.Bm.GoYtdifolgbppffpaa
