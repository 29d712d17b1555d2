/- The heap of ids: what goes in comes out, in some order. -/
import Derived.Test.YtldkmmnffjdliaaYLawSets
namespace Go.Bm.GoYtldkmmnffjdliaa
set_option autoImplicit false
set_option linter.unusedVariables false
set_option linter.unusedSimpArgs false
set_option maxRecDepth 100000
/-- Two elements change places. -/
def swp (l : List Int) (i k : Nat) : List Int := List.set (List.set l i (List.getD l k 0)) k (List.getD l i 0)
theorem swp_len (l : List Int) (i k : Nat) : (swp l i k).length = l.length := by simp [swp]
theorem swp_perm (l : List Int) (i k : Nat) (hi : i < l.length) (hk : k < l.length) : (swp l i k).Perm l := by
  refine List.perm_iff_count.2 fun a => ?_
  have e1 : l.getD k 0 = l[k] := by simp [List.getD, hk]
  have e2 : l.getD i 0 = l[i] := by simp [List.getD, hi]
  unfold swp
  rw [e1, e2, List.count_set (by simpa using hk), List.count_set hi, List.getElem_set]
  have c1 : 0 < l.count l[i] := List.count_pos_iff.2 (List.getElem_mem hi)
  have c2 : 0 < l.count l[k] := List.count_pos_iff.2 (List.getElem_mem hk)
  by_cases hik : i = k
  · subst hik
    simp only [if_true]
    by_cases ha : l[i] = a
    · subst ha; simp
    · have : (l[i] == a) = false := by simpa using ha
      simp [this]
  · rw [if_neg hik]
    by_cases ha : l[i] = a <;> by_cases hb : l[k] = a
    · simp [ha, hb]; subst ha; omega
    · simp [ha, hb]; subst ha; omega
    · simp [ha, hb]
    · simp [ha, hb]
theorem less_eq (l : List Int) (i k : Int) (hi : 0 ≤ i) (hi' : i < l.length) (hk : 0 ≤ k) (hk' : k < l.length) : graph_ids_Less l i k = some (decide (List.getD l i.toNat 0 < List.getD l k.toNat 0)) := by
  unfold graph_ids_Less
  rw [if_pos (decide_eq_true hi), if_pos (decide_eq_true hi'), if_pos (decide_eq_true hk), if_pos (decide_eq_true hk')]
theorem swap_eq (l : List Int) (i k : Int) (hi : 0 ≤ i) (hi' : i < l.length) (hk : 0 ≤ k) (hk' : k < l.length) : graph_ids_Swap l i k = some (swp l i.toNat k.toNat) := by
  unfold graph_ids_Swap
  rw [if_pos (decide_eq_true hk), if_pos (decide_eq_true hk'), if_pos (decide_eq_true hi), if_pos (decide_eq_true hi')]
  rfl
theorem up_eq : ∀ (n : Nat) (l : List Int) (j : Int), j.toNat ≤ n → 0 ≤ j → j < l.length → l.length ≤ 1000000 → ∃ l', heap_up_l0 l j = some l' ∧ l'.Perm l
  | n, l, j, hn, h0, hj, hl => by
    rw [heap_up_l0]
    rcases Int.lt_or_le j 1 with hj1 | hj1
    · have : j = 0 := by omega
      subst this
      rw [if_pos (by decide)]
      exact ⟨l, rfl, .refl _⟩
    · have e1 : iSub j 1 = j - 1 := iSub_eq (by omega) (by omega)
      have e3 : (j - 1).tdiv 2 = (j - 1) / 2 := Int.tdiv_eq_ediv_of_nonneg (by omega)
      have e2 : iQuo (iSub j 1) 2 = (j - 1) / 2 := by
        rw [e1]
        unfold iQuo
        rw [e3]
        exact wrap64 (by omega) (by omega)
      rw [e2]
      have hi0 : 0 ≤ (j - 1) / 2 := by omega
      have hi1 : (j - 1) / 2 < j := by omega
      rw [if_neg (eqF (by omega)), bind_some (less_eq l j ((j - 1) / 2) h0 hj hi0 (by omega))]
      split
      · exact ⟨l, rfl, .refl _⟩
      · rw [bind_some (swap_eq l _ _ hi0 (by omega) h0 hj)]
        have hp := swp_perm l ((j - 1) / 2).toNat j.toNat (by omega) (by omega)
        have hlen := swp_len l ((j - 1) / 2).toNat j.toNat
        rw [if_pos (decide_eq_true hlen)]
        match n, hn with
        | 0, hn => omega
        | n + 1, hn =>
          obtain ⟨l', h1, h2⟩ := up_eq n (swp l ((j - 1) / 2).toNat j.toNat) ((j - 1) / 2) (by omega) hi0 (by rw [hlen]; omega) (by rw [hlen]; exact hl)
          exact ⟨l', h1, h2.trans hp⟩
theorem down_eq (x1 : Int) (N : Nat) : ∀ (n : Nat) (l : List Int) (i : Int), N - i.toNat ≤ n → 0 ≤ i → i < l.length → N ≤ l.length → l.length ≤ 1000000 → ∃ r, heap_down_l2 l x1 (N : Int) i = some r ∧ r.1.Perm l
  | n, l, i, hn, h0, hi, hN, hl => by
    rw [heap_down_l2]
    have e1 : iMul 2 i = 2 * i := iMul_eq (by omega) (by omega)
    have e2 : iAdd (iMul 2 i) 1 = 2 * i + 1 := by rw [e1]; exact iAdd_eq (by omega) (by omega)
    have e3 : iAdd (iAdd (iMul 2 i) 1) 1 = 2 * i + 2 := by rw [e2, iAdd_eq (by omega) (by omega)]; omega
    rw [e3, e2]
    have step : ∀ j : Int, i < j → j < (N : Int) → ∃ r, (heap_down_l2 (swp l i.toNat j.toNat) x1 (N : Int) j) = some r ∧ r.1.Perm l := by
      intro j h1 h2
      have hp := swp_perm l i.toNat j.toNat (by omega) (by omega)
      have hlen := swp_len l i.toNat j.toNat
      match n, hn with
      | 0, hn => omega
      | n + 1, hn =>
        obtain ⟨r, h3, h4⟩ := down_eq x1 N n (swp l i.toNat j.toNat) j (by omega) (by omega) (by rw [hlen]; omega) (by rw [hlen]; exact hN) (by rw [hlen]; exact hl)
        exact ⟨r, h3, h4.trans hp⟩
    have go : ∀ j : Int, i < j → j < (N : Int) → ∃ r, (bind (graph_ids_Less l j i) fun v => if (!v) = true then some (l, i) else bind (graph_ids_Swap l i j) fun v => if (decide ((List.length v : Nat) = List.length l)) = true then heap_down_l2 v x1 (N : Int) j else none) = some r ∧ r.1.Perm l := by
      intro j h1 h2
      rw [bind_some (less_eq l j i (by omega) (by omega) h0 hi)]
      split
      · exact ⟨(l, i), rfl, .refl _⟩
      · rw [bind_some (swap_eq l i j h0 hi (by omega) (by omega)), if_pos (decide_eq_true (swp_len _ _ _))]
        exact step j h1 h2
    by_cases h1 : (2 * i + 1 : Int) ≥ N
    · rw [if_pos (decide_eq_true h1)]; exact ⟨(l, i), rfl, .refl _⟩
    · rw [if_neg (by simpa using h1), if_neg (by simp; omega)]
      by_cases h2 : (2 * i + 2 : Int) < N
      · rw [if_pos (decide_eq_true h2), bind_some (less_eq l (2 * i + 2) (2 * i + 1) (by omega) (by omega) (by omega) (by omega))]
        split
        · exact go (2 * i + 2) (by omega) h2
        · exact go (2 * i + 1) (by omega) (by omega)
      · rw [if_neg (by simpa using h2)]
        exact go (2 * i + 1) (by omega) (by omega)
theorem push_eq (l : List Int) (x : Int) (hl : l.length ≤ 65536) : ∃ l', heap_Push l x = some l' ∧ l'.Perm (l ++ [x]) := by
  unfold heap_Push graph_ids_Push graph_ids_Len heap_up
  rw [if_pos (Nat.ble_eq_true_of_le (by simp only [List.length_singleton, reach]; omega))]
  simp only [bind, Option.bind_some]
  have e1 : iSub (((l ++ [x]).length : Nat) : Int) 1 = l.length := by
    rw [List.length_append, List.length_singleton, iSub_eq (by omega) (by omega)]; omega
  rw [e1]
  obtain ⟨l', h1, h2⟩ := up_eq l.length (l ++ [x]) (l.length : Int) (by omega) (by omega) (by simp; omega) (by simp; omega)
  rw [h1]
  exact ⟨l', rfl, h2⟩
theorem pop_eq (l : List Int) (h0 : 0 < l.length) (hl : l.length ≤ 65536) : ∃ x l', heap_Pop l = some (x, l') ∧ (l' ++ [x]).Perm l := by
  unfold heap_Pop graph_ids_Len
  have e1 : iSub ((l.length : Nat) : Int) 1 = ((l.length - 1 : Nat) : Int) := by rw [iSub_eq (by omega) (by omega)]; omega
  simp only [bind, Option.bind_some, e1]
  rw [swap_eq l 0 ((l.length - 1 : Nat) : Int) (by omega) (by omega) (by omega) (by omega)]
  simp only [Option.bind_some]
  have hp := swp_perm l (0 : Int).toNat ((l.length - 1 : Nat) : Int).toNat (by simp; omega) (by omega)
  have hlen := swp_len l (0 : Int).toNat ((l.length - 1 : Nat) : Int).toNat
  rw [if_pos (decide_eq_true hlen)]
  unfold heap_down
  obtain ⟨r, h1, h2⟩ := down_eq 0 (l.length - 1) (l.length - 1) (swp l (0 : Int).toNat ((l.length - 1 : Nat) : Int).toNat) 0 (by omega) (by omega) (by rw [hlen]; omega) (by rw [hlen]; omega) (by rw [hlen]; omega)
  rw [h1]
  simp only [bind, Option.bind_some]
  have hrl : r.1.length = l.length := h2.length_eq.trans hlen
  unfold graph_ids_Pop
  have e2 : iSub ((r.1.length : Nat) : Int) 1 = ((l.length - 1 : Nat) : Int) := by rw [hrl]; exact e1
  rw [e2, if_pos (decide_eq_true (by omega)), if_pos (decide_eq_true (by omega)), if_pos (decide_eq_true (by omega))]
  refine ⟨_, _, rfl, ?_⟩
  have e3 : (((l.length - 1 : Nat) : Int)).toNat = l.length - 1 := by omega
  rw [e3]
  have e4 : List.take (l.length - 1) r.1 ++ [r.1.getD (l.length - 1) 0] = r.1 := by
    have hlt : l.length - 1 < r.1.length := by omega
    have := List.take_append_getElem hlt
    rw [List.getD_eq_getElem?_getD, List.getElem?_eq_getElem hlt]
    simp only [Option.getD_some]
    rw [this]
    exact List.take_of_length_le (by omega)
  rw [e4]
  exact h2.trans hp
theorem short : ∀ (n : Nat) (l : List Int), l.Nodup → (∀ x ∈ l, 0 ≤ x ∧ x < (n : Int)) → l.length ≤ n
  | 0, l, _, h => by
    cases l with
    | nil => simp
    | cons x l => have := h x (by simp); omega
  | n + 1, l, hn, h => by
    have h1 := short n (l.erase (n : Int)) (hn.erase _) fun x hx => by
      have h2 := h x (List.mem_of_mem_erase hx)
      have h3 : x ≠ (n : Int) := fun e => by
        subst e
        exact (List.Nodup.not_mem_erase hn) hx
      omega
    have h4 : l.length ≤ (l.erase (n : Int)).length + 1 := by
      rw [List.length_erase]
      split <;> omega
    omega
end Go.Bm.GoYtldkmmnffjdliaa
