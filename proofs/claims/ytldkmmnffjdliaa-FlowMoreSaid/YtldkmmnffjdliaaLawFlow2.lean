/- The heap of numbers: what goes in comes out, in some order. -/
import Derived.Test.YtldkmmnffjdliaaT2a
namespace Go.Bm.GoYtldkmmnffjdliaa
set_option autoImplicit false
set_option linter.unusedVariables false
set_option linter.unusedSimpArgs false
set_option maxRecDepth 100000

theorem perm_of_count {l m : List Int} (h : ∀ a, l.count a = m.count a) : l.Perm m := List.perm_iff_count.2 h
/-- Two elements change places. -/
def swp (l : List Int) (i k : Nat) : List Int := List.set (List.set l i (List.getD l k 0)) k (List.getD l i 0)
theorem swp_len (l : List Int) (i k : Nat) : (swp l i k).length = l.length := by simp [swp]
theorem swp_perm (l : List Int) (i k : Nat) (hi : i < l.length) (hk : k < l.length) : (swp l i k).Perm l := by
  refine List.perm_iff_count.2 fun a => ?_
  have e1 : l.getD k 0 = l[k] := by simp [List.getD, hk]
  have e2 : l.getD i 0 = l[i] := by simp [List.getD, hi]
  unfold swp
  rw [e1, e2, List.count_set (by simpa using hk), List.count_set hi, List.getElem_set]
  have c1 : 0 < l.count l[i] := List.count_pos_iff.2 (List.getElem_mem hi)
  have c2 : 0 < l.count l[k] := List.count_pos_iff.2 (List.getElem_mem hk)
  by_cases hik : i = k
  · subst hik
    simp only [if_true]
    by_cases ha : l[i] = a
    · subst ha; simp
    · have : (l[i] == a) = false := by simpa using ha
      simp [this]
  · rw [if_neg hik]
    by_cases ha : l[i] = a <;> by_cases hb : l[k] = a
    · simp [ha, hb]; subst ha; omega
    · simp [ha, hb]; subst ha; omega
    · simp [ha, hb]
    · simp [ha, hb]
theorem less_eq (l : List Int) (b : List Bool) (i k : Int) (hi : 0 ≤ i) (hi' : i < l.length) (hk : 0 ≤ k) (hk' : k < l.length) : ∃ c, flow_todo_Less l b i k = some c := by
  unfold flow_todo_Less
  rw [if_pos (decide_eq_true hi), if_pos (decide_eq_true hi'), if_pos (decide_eq_true hk), if_pos (decide_eq_true hk')]
  exact ⟨_, rfl⟩
theorem swap_eq (l : List Int) (b : List Bool) (i k : Int) (hi : 0 ≤ i) (hi' : i < l.length) (hk : 0 ≤ k) (hk' : k < l.length) : flow_todo_Swap l b i k = some (swp l i.toNat k.toNat) := by
  unfold flow_todo_Swap
  rw [if_pos (decide_eq_true hk), if_pos (decide_eq_true hk'), if_pos (decide_eq_true hi), if_pos (decide_eq_true hi')]
  rfl
/-- Up the heap: the same numbers; it ends. -/
theorem up_eq (b : List Bool) : ∀ (n : Nat) (l : List Int) (j : Int), j.toNat ≤ n → 0 ≤ j → j < l.length → l.length ≤ 1000000 → ∃ l', heap_up_l0 l b j = some l' ∧ l'.Perm l
  | n, l, j, hn, h0, hj, hl => by
    rw [heap_up_l0]
    rcases Int.lt_or_le j 1 with hj1 | hj1
    · have : j = 0 := by omega
      subst this
      rw [if_pos (by decide)]
      exact ⟨l, rfl, .refl _⟩
    · have e1 : iSub j 1 = j - 1 := iSub_eq (by omega) (by omega)
      have e3 : (j - 1).tdiv 2 = (j - 1) / 2 := Int.tdiv_eq_ediv_of_nonneg (by omega)
      have e2 : iQuo (iSub j 1) 2 = (j - 1) / 2 := by
        rw [e1]
        unfold iQuo
        rw [e3]
        exact wrap64 (by omega) (by omega)
      rw [e2]
      have hi0 : 0 ≤ (j - 1) / 2 := by omega
      have hi1 : (j - 1) / 2 < j := by omega
      rw [if_neg (by simp; omega)]
      obtain ⟨c, hc⟩ := less_eq l b j ((j - 1) / 2) h0 hj hi0 (by omega)
      rw [hc]
      simp only [bind, Option.bind_some]
      by_cases hcc : (!c) = true
      · rw [if_pos hcc]
        exact ⟨l, rfl, .refl _⟩
      · rw [if_neg hcc, swap_eq l b _ _ hi0 (by omega) h0 hj]
        simp only [Option.bind_some]
        have hp := swp_perm l ((j - 1) / 2).toNat j.toNat (by omega) (by omega)
        have hlen := swp_len l ((j - 1) / 2).toNat j.toNat
        match n, hn with
        | 0, hn => omega
        | n + 1, hn =>
          obtain ⟨l', h1, h2⟩ := up_eq b n (swp l ((j - 1) / 2).toNat j.toNat) ((j - 1) / 2) (by omega) hi0 (by rw [hlen]; omega) (by rw [hlen]; exact hl)
          exact ⟨l', h1, h2.trans hp⟩
/-- Down the heap: the same numbers; it ends. -/
theorem down_eq (b : List Bool) (x2 : Int) (N : Nat) (l0 : List Int) : ∀ (n : Nat) (l : List Int) (i : Int), N - i.toNat ≤ n → 0 ≤ i → i < l.length → N ≤ l.length → l.length ≤ 1000000 → ∃ r, heap_down_l2 l b x2 (N : Int) i = some r ∧ r.1.Perm l
  | n, l, i, hn, h0, hi, hN, hl => by
    rw [heap_down_l2]
    have e1 : iMul 2 i = 2 * i := iMul_eq (by omega) (by omega)
    have e2 : iAdd (iMul 2 i) 1 = 2 * i + 1 := by rw [e1]; exact iAdd_eq (by omega) (by omega)
    have e3 : iAdd (iAdd (iMul 2 i) 1) 1 = 2 * i + 2 := by rw [e2, iAdd_eq (by omega) (by omega)]; omega
    rw [e3, e2]
    have step : ∀ j : Int, i < j → j < (N : Int) → ∃ r, (heap_down_l2 (swp l i.toNat j.toNat) b x2 (N : Int) j) = some r ∧ r.1.Perm l := by
      intro j h1 h2
      have hp := swp_perm l i.toNat j.toNat (by omega) (by omega)
      have hlen := swp_len l i.toNat j.toNat
      match n, hn with
      | 0, hn => omega
      | n + 1, hn =>
        obtain ⟨r, h3, h4⟩ := down_eq b x2 N l0 n (swp l i.toNat j.toNat) j (by omega) (by omega) (by rw [hlen]; omega) (by rw [hlen]; exact hN) (by rw [hlen]; exact hl)
        exact ⟨r, h3, h4.trans hp⟩
    have go : ∀ j : Int, i < j → j < (N : Int) → ∃ r, (bind (flow_todo_Less l b j i) fun v => if (!v) = true then some (l, i) else bind (flow_todo_Swap l b i j) fun v => heap_down_l2 v b x2 (N : Int) j) = some r ∧ r.1.Perm l := by
      intro j h1 h2
      obtain ⟨c, hc⟩ := less_eq l b j i (by omega) (by omega) h0 hi
      rw [hc]
      simp only [bind, Option.bind_some]
      by_cases hcc : (!c) = true
      · rw [if_pos hcc]; exact ⟨(l, i), rfl, .refl _⟩
      · rw [if_neg hcc, swap_eq l b i j h0 hi (by omega) (by omega)]
        exact step j h1 h2
    by_cases h1 : (2 * i + 1 : Int) ≥ N
    · rw [if_pos (decide_eq_true h1)]; exact ⟨(l, i), rfl, .refl _⟩
    · rw [if_neg (by simpa using h1), if_neg (by simp; omega)]
      by_cases h2 : (2 * i + 2 : Int) < N
      · rw [if_pos (decide_eq_true h2)]
        obtain ⟨c, hc⟩ := less_eq l b (2 * i + 2) (2 * i + 1) (by omega) (by omega) (by omega) (by omega)
        rw [hc]
        simp only [bind, Option.bind_some]
        cases c with
        | true => exact go (2 * i + 2) (by omega) h2
        | false => exact go (2 * i + 1) (by omega) (by omega)
      · rw [if_neg (by simpa using h2)]
        exact go (2 * i + 1) (by omega) (by omega)
/-! ### the numbers that wait -/
theorem short : ∀ (n : Nat) (l : List Int), l.Nodup → (∀ x ∈ l, 0 ≤ x ∧ x < (n : Int)) → l.length ≤ n
  | 0, l, _, h => by
    cases l with
    | nil => simp
    | cons x l => have := h x (by simp); omega
  | n + 1, l, hn, h => by
    have h1 := short n (l.erase (n : Int)) (hn.erase _) fun x hx => by
      have h2 := h x (List.mem_of_mem_erase hx)
      have h3 : x ≠ (n : Int) := fun e => by
        subst e
        exact (List.Nodup.not_mem_erase hn) hx
      omega
    have h4 : l.length ≤ (l.erase (n : Int)).length + 1 := by
      rw [List.length_erase]
      split <;> omega
    omega
structure WK (n : Nat) (l : List Int) (b : List Bool) : Prop where
  len : b.length = n
  nd : l.Nodup
  rng : ∀ x ∈ l, 0 ≤ x ∧ x < (n : Int)
  is : ∀ i : Nat, i < n → (b.getD i false = true ↔ (i : Int) ∈ l)
theorem push_eq (l : List Int) (b : List Bool) (x : Int) (hl : l.length ≤ 65536) : ∃ l', heap_Push l b x = some l' ∧ l'.Perm (l ++ [x]) := by
  unfold heap_Push flow_todo_Push flow_todo_Len heap_up
  rw [if_pos (Nat.ble_eq_true_of_le (by simp only [List.length_singleton, reach]; omega))]
  simp only [bind, Option.bind_some]
  have e1 : iSub (((l ++ [x]).length : Nat) : Int) 1 = l.length := by
    rw [List.length_append, List.length_singleton, iSub_eq (by omega) (by omega)]; omega
  rw [e1]
  obtain ⟨l', h1, h2⟩ := up_eq b l.length (l ++ [x]) (l.length : Int) (by omega) (by omega) (by simp; omega) (by simp; omega)
  rw [h1]
  exact ⟨l', rfl, h2⟩
theorem add_eq {n : Nat} (hn : n ≤ 65536) {l : List Int} {b : List Bool} (h : WK n l b) {i : Int} (h0 : 0 ≤ i) (hi : i < (n : Int)) : ∃ l' b', flow_todo_add l b i = some (l', b') ∧ WK n l' b' ∧ (∀ x, x ∈ l' ↔ x ∈ l ∨ x = i) ∧ l'.length ≤ l.length + 1 := by
  unfold flow_todo_add
  rw [if_pos (decide_eq_true h0), if_pos (decide_eq_true (by rw [h.len]; exact hi))]
  have hii : ((i.toNat : Nat) : Int) = i := by omega
  have his := h.is i.toNat (by omega)
  rw [hii] at his
  cases hb : b.getD i.toNat false with
  | true =>
    rw [if_neg (by simp)]
    have hm := his.1 hb
    exact ⟨l, b, rfl, h, fun x => ⟨.inl, fun hx => hx.elim id fun e => e ▸ hm⟩, by omega⟩
  | false =>
    rw [if_pos (by simp)]
    have hm : i ∉ l := fun hm => by rw [his.2 hm] at hb; cases hb
    obtain ⟨l', h1, h2⟩ := push_eq l (b.set i.toNat true) i (by have := short n l h.nd h.rng; omega)
    rw [h1]
    refine ⟨l', _, rfl, ⟨by simp [h.len], ?_, fun x hx => ?_, fun k hk => ?_⟩, fun x => ?_, ?_⟩
    · refine h2.nodup_iff.2 (List.nodup_append.2 ⟨h.nd, by simp, fun a ha c hc => ?_⟩)
      simp at hc
      subst hc
      exact fun e => hm (e ▸ ha)
    · have := h2.mem_iff.1 hx
      simp at this
      rcases this with hx | rfl
      · exact h.rng x hx
      · exact ⟨h0, hi⟩
    · rw [h2.mem_iff]
      simp only [List.mem_append, List.mem_singleton]
      by_cases hki : k = i.toNat
      · subst hki
        simp only [hii, or_true, iff_true]
        simp [List.getD, h.len, hk]
      · have h3 : ¬ (k : Int) = i := by omega
        have h4 : i.toNat ≠ k := fun e => hki e.symm
        simp only [h3, or_false]
        rw [← h.is k hk]
        simp [List.getD, List.getElem?_set, h4]
    · rw [h2.mem_iff]; simp
    · have := h2.length_eq
      simp at this
      omega
theorem pop_eq (l : List Int) (b : List Bool) (h0 : 0 < l.length) (hl : l.length ≤ 65536) : ∃ x l', heap_Pop l b = some (x, l') ∧ (l' ++ [x]).Perm l := by
  unfold heap_Pop flow_todo_Len
  have e1 : iSub ((l.length : Nat) : Int) 1 = ((l.length - 1 : Nat) : Int) := by rw [iSub_eq (by omega) (by omega)]; omega
  simp only [bind, Option.bind_some, e1]
  rw [swap_eq l b 0 ((l.length - 1 : Nat) : Int) (by omega) (by omega) (by omega) (by omega)]
  simp only [Option.bind_some]
  have hp := swp_perm l (0 : Int).toNat ((l.length - 1 : Nat) : Int).toNat (by simp; omega) (by omega)
  have hlen := swp_len l (0 : Int).toNat ((l.length - 1 : Nat) : Int).toNat
  unfold heap_down
  obtain ⟨r, h1, h2⟩ := down_eq b 0 (l.length - 1) l (l.length - 1) (swp l (0 : Int).toNat ((l.length - 1 : Nat) : Int).toNat) 0 (by omega) (by omega) (by rw [hlen]; omega) (by rw [hlen]; omega) (by rw [hlen]; omega)
  rw [h1]
  simp only [bind, Option.bind_some]
  have hrl : r.1.length = l.length := h2.length_eq.trans hlen
  unfold flow_todo_Pop
  have e2 : iSub ((r.1.length : Nat) : Int) 1 = ((l.length - 1 : Nat) : Int) := by rw [hrl]; exact e1
  rw [e2, if_pos (decide_eq_true (by omega)), if_pos (decide_eq_true (by omega)), if_pos (decide_eq_true (by omega))]
  refine ⟨_, _, rfl, ?_⟩
  have e3 : (((l.length - 1 : Nat) : Int)).toNat = l.length - 1 := by omega
  rw [e3]
  have e4 : List.take (l.length - 1) r.1 ++ [r.1.getD (l.length - 1) 0] = r.1 := by
    have hlt : l.length - 1 < r.1.length := by omega
    have := List.take_append_getElem hlt
    rw [List.getD_eq_getElem?_getD, List.getElem?_eq_getElem hlt]
    simp only [Option.getD_some]
    rw [this]
    exact List.take_of_length_le (by omega)
  rw [e4]
  exact h2.trans hp
theorem next_eq {n : Nat} (hn : n ≤ 65536) {l : List Int} {b : List Bool} (h : WK n l b) (h0 : 0 < l.length) : ∃ i l' b', flow_todo_next l b = some (i, l', b') ∧ i ∈ l ∧ WK n l' b' ∧ (∀ x, x ∈ l' ↔ x ∈ l ∧ x ≠ i) ∧ l'.length + 1 = l.length := by
  have hs := short n l h.nd h.rng
  obtain ⟨x, l', h1, h2⟩ := pop_eq l b h0 (by omega)
  unfold flow_todo_next
  rw [h1]
  simp only [bind, Option.bind_some]
  have hxm : x ∈ l := h2.mem_iff.1 (by simp)
  have hxr := h.rng x hxm
  rw [if_pos (decide_eq_true hxr.1), if_pos (decide_eq_true (by rw [h.len]; exact hxr.2))]
  have hnd : (l' ++ [x]).Nodup := h2.nodup_iff.2 h.nd
  have hnx : x ∉ l' := fun hm => by
    have := (List.nodup_append.1 hnd).2.2 x hm x (by simp)
    exact this rfl
  have hmem : ∀ y, y ∈ l' ↔ y ∈ l ∧ y ≠ x := fun y => by
    constructor
    · intro hy
      exact ⟨h2.mem_iff.1 (by simp [hy]), fun e => hnx (e ▸ hy)⟩
    · rintro ⟨hy, hne⟩
      have := h2.mem_iff.2 hy
      simp at this
      exact this.resolve_right hne
  refine ⟨x, l', _, rfl, hxm, ⟨by simp [h.len], (List.nodup_append.1 hnd).1, fun y hy => h.rng y ((hmem y).1 hy).1, fun k hk => ?_⟩, hmem, by have := h2.length_eq; simp at this; omega⟩
  rw [hmem]
  have hxx : ((x.toNat : Nat) : Int) = x := by omega
  by_cases hkx : k = x.toNat
  · subst hkx
    simp [hxx, List.getD, h.len, hk]
  · have h4 : x.toNat ≠ k := fun e => hkx e.symm
    have h5 : (k : Int) ≠ x := by omega
    simp only [h5, ne_eq, not_false_eq_true, and_true]
    rw [← h.is k hk]
    simp [List.getD, List.getElem?_set, h4]
end Go.Bm.GoYtldkmmnffjdliaa
