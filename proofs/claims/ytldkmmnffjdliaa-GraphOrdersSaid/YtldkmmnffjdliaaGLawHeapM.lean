/- The heap of ids: what comes out is the least that is in. -/
import Derived.Test.YtldkmmnffjdliaaGLawNamed
namespace Go.Bm.GoYtldkmmnffjdliaa
set_option autoImplicit false
set_option linter.unusedVariables false
set_option linter.unusedSimpArgs false
set_option maxRecDepth 100000
/-- Two elements change places. -/
def swp (l : List Int) (i k : Nat) : List Int := List.set (List.set l i (List.getD l k 0)) k (List.getD l i 0)
theorem swp_len (l : List Int) (i k : Nat) : (swp l i k).length = l.length := by simp [swp]
theorem swp_perm (l : List Int) (i k : Nat) (hi : i < l.length) (hk : k < l.length) : (swp l i k).Perm l := by
  refine List.perm_iff_count.2 fun a => ?_
  have e1 : l.getD k 0 = l[k] := by simp [List.getD, hk]
  have e2 : l.getD i 0 = l[i] := by simp [List.getD, hi]
  unfold swp
  rw [e1, e2, List.count_set (by simpa using hk), List.count_set hi, List.getElem_set]
  have c1 : 0 < l.count l[i] := List.count_pos_iff.2 (List.getElem_mem hi)
  have c2 : 0 < l.count l[k] := List.count_pos_iff.2 (List.getElem_mem hk)
  by_cases hik : i = k
  · subst hik
    simp only [if_true]
    by_cases ha : l[i] = a
    · subst ha; simp
    · have : (l[i] == a) = false := by simpa using ha
      simp [this]
  · rw [if_neg hik]
    by_cases ha : l[i] = a <;> by_cases hb : l[k] = a
    · simp [ha, hb]; subst ha; omega
    · simp [ha, hb]; subst ha; omega
    · simp [ha, hb]
    · simp [ha, hb]
theorem less_eq (l : List Int) (i k : Int) (hi : 0 ≤ i) (hi' : i < l.length) (hk : 0 ≤ k) (hk' : k < l.length) : graph_ids_Less l i k = some (decide (List.getD l i.toNat 0 < List.getD l k.toNat 0)) := by
  unfold graph_ids_Less
  rw [if_pos (decide_eq_true hi), if_pos (decide_eq_true hi'), if_pos (decide_eq_true hk), if_pos (decide_eq_true hk')]
theorem swap_eq (l : List Int) (i k : Int) (hi : 0 ≤ i) (hi' : i < l.length) (hk : 0 ≤ k) (hk' : k < l.length) : graph_ids_Swap l i k = some (swp l i.toNat k.toNat) := by
  unfold graph_ids_Swap
  rw [if_pos (decide_eq_true hk), if_pos (decide_eq_true hk'), if_pos (decide_eq_true hi), if_pos (decide_eq_true hi')]
  rfl
abbrev gd (l : List Int) (k : Nat) : Int := List.getD l k 0
theorem swp_get (l : List Int) (i k x : Nat) (hi : i < l.length) (hk : k < l.length) : gd (swp l i k) x = if x = k then gd l i else if x = i then gd l k else gd l x := by
  unfold swp
  by_cases h1 : x = k
  · subst h1; rw [if_pos rfl]; simp [gd, List.getD, hk]
  · have h1' : k ≠ x := fun e => h1 e.symm
    rw [if_neg h1]
    by_cases h2 : x = i
    · subst h2; rw [if_pos rfl]; simp [gd, List.getD, List.getElem?_set, h1', hi]
    · have h2' : i ≠ x := fun e => h2 e.symm
      rw [if_neg h2]; simp [gd, List.getD, List.getElem?_set, h1', h2']
/-- The first N are a heap. -/
def Hp (l : List Int) (N : Nat) : Prop := ∀ k, 0 < k → k < N → gd l ((k - 1) / 2) ≤ gd l k
structure Up (l : List Int) (j : Nat) : Prop where
  a : ∀ k, 0 < k → k < l.length → k ≠ j → gd l ((k - 1) / 2) ≤ gd l k
  b : 0 < j → ∀ k, 0 < k → k < l.length → (k - 1) / 2 = j → gd l ((j - 1) / 2) ≤ gd l k
theorem Up.swp {l : List Int} {j : Nat} (h : Up l j) (hj : 0 < j) (hl : j < l.length) (hlt : gd l j < gd l ((j - 1) / 2)) : Up (swp l ((j - 1) / 2) j) ((j - 1) / 2) := by
  have hp : (j - 1) / 2 < j := by omega
  generalize hpe : (j - 1) / 2 = p at hlt hp ⊢
  have e := fun x => swp_get l p j x (by omega) hl
  have hlen := swp_len l p j
  constructor
  · intro k h0 hk hkp
    rw [hlen] at hk
    rw [e, e]
    by_cases h1 : k = j
    · subst h1
      rw [if_pos rfl, hpe, if_neg (by omega), if_pos rfl]
      omega
    · rw [if_neg h1, if_neg hkp]
      by_cases h2 : (k - 1) / 2 = j
      · rw [if_pos h2]
        have := h.b hj k h0 hk h2
        rw [hpe] at this
        exact this
      · rw [if_neg h2]
        by_cases h3 : (k - 1) / 2 = p
        · rw [if_pos h3]
          have := h.a k h0 hk h1
          rw [h3] at this
          omega
        · rw [if_neg h3]
          exact h.a k h0 hk h1
  · intro hp0 k h0 hk hkp
    rw [hlen] at hk
    have hpp := h.a p hp0 (by omega) (by omega)
    rw [e, e, if_neg (by omega), if_neg (by omega), if_neg (show k ≠ p by omega)]
    by_cases h1 : k = j
    · rw [if_pos h1]; exact hpp
    · rw [if_neg h1]
      have := h.a k h0 hk h1
      rw [hkp] at this
      omega
structure Dn (l : List Int) (N i : Nat) : Prop where
  a : ∀ k, 0 < k → k < N → (k - 1) / 2 ≠ i → gd l ((k - 1) / 2) ≤ gd l k
  b : 0 < i → ∀ k, 0 < k → k < N → (k - 1) / 2 = i → gd l ((i - 1) / 2) ≤ gd l k
theorem Dn.swp {l : List Int} {N i j : Nat} (h : Dn l N i) (hN : N ≤ l.length) (hj0 : 0 < j) (hj : j < N) (hji : (j - 1) / 2 = i) (hlt : gd l j < gd l i) (hmin : ∀ k, 0 < k → k < N → (k - 1) / 2 = i → gd l j ≤ gd l k) : Dn (swp l i j) N j := by
  have e := fun x => swp_get l i j x (by omega) (by omega)
  constructor
  · intro k h0 hk hkj
    rw [e, e, if_neg hkj]
    by_cases h1 : k = j
    · subst h1
      rw [if_pos rfl, if_pos hji]
      omega
    · rw [if_neg h1]
      by_cases h2 : (k - 1) / 2 = i
      · rw [if_pos h2, if_neg (show k ≠ i by omega)]
        exact hmin k h0 hk h2
      · rw [if_neg h2]
        by_cases h3 : k = i
        · subst h3
          rw [if_pos rfl]
          exact h.b h0 j hj0 hj hji
        · rw [if_neg h3]
          exact h.a k h0 hk h2
  · intro _ k h0 hk hkj
    rw [e, e, hji, if_neg (show i ≠ j by omega), if_pos rfl, if_neg (show k ≠ j by omega), if_neg (show k ≠ i by omega)]
    have := h.a k h0 hk (by omega)
    rw [hkj] at this
    exact this
theorem Hp.least {l : List Int} {N : Nat} (h : Hp l N) : ∀ k, k < N → gd l 0 ≤ gd l k
  | 0, _ => Int.le_refl _
  | k + 1, hk => by
    have h1 := h (k + 1) (by omega) hk
    have h2 := Hp.least h ((k + 1 - 1) / 2) (by omega)
    omega
theorem up_eq : ∀ (n : Nat) (l : List Int) (j : Int), j.toNat ≤ n → 0 ≤ j → j < l.length → l.length ≤ 1000000 → ∃ l', heap_up_l0 l j = some l' ∧ l'.Perm l ∧ (Up l j.toNat → Hp l' l'.length)
  | n, l, j, hn, h0, hj, hl => by
    rw [heap_up_l0]
    rcases Int.lt_or_le j 1 with hj1 | hj1
    · have : j = 0 := by omega
      subst this
      rw [if_pos (by decide)]
      exact ⟨l, rfl, .refl _, fun h k h1 h2 => h.a k h1 h2 (by simp; omega)⟩
    · have e1 : iSub j 1 = j - 1 := iSub_eq (by omega) (by omega)
      have e3 : (j - 1).tdiv 2 = (j - 1) / 2 := Int.tdiv_eq_ediv_of_nonneg (by omega)
      have e2 : iQuo (iSub j 1) 2 = (j - 1) / 2 := by
        rw [e1]
        unfold iQuo
        rw [e3]
        exact wrap64 (by omega) (by omega)
      rw [e2]
      have hi0 : 0 ≤ (j - 1) / 2 := by omega
      have hi1 : (j - 1) / 2 < j := by omega
      rw [if_neg (eqF (by omega)), bind_some (less_eq l j ((j - 1) / 2) h0 hj hi0 (by omega))]
      have hpt : ((j - 1) / 2).toNat = (j.toNat - 1) / 2 := by omega
      split
      · rename_i hge
        refine ⟨l, rfl, .refl _, fun h k h1 h2 => ?_⟩
        by_cases hk : k = j.toNat
        · subst hk
          have : ¬ gd l j.toNat < gd l ((j - 1) / 2).toNat := by simpa using hge
          rw [hpt] at this
          omega
        · exact h.a k h1 h2 hk
      · rw [bind_some (swap_eq l _ _ hi0 (by omega) h0 hj)]
        have hp := swp_perm l ((j - 1) / 2).toNat j.toNat (by omega) (by omega)
        have hlen := swp_len l ((j - 1) / 2).toNat j.toNat
        rename_i hge
        have hlt : gd l j.toNat < gd l ((j - 1) / 2).toNat := by simpa using hge
        rw [if_pos (decide_eq_true hlen)]
        match n, hn with
        | 0, hn => omega
        | n + 1, hn =>
          obtain ⟨l', h1, h2, h3⟩ := up_eq n (swp l ((j - 1) / 2).toNat j.toNat) ((j - 1) / 2) (by omega) hi0 (by rw [hlen]; omega) (by rw [hlen]; exact hl)
          refine ⟨l', h1, h2.trans hp, fun h => h3 ?_⟩
          rw [hpt] at hlt ⊢
          exact h.swp (by omega) (by omega) hlt
theorem down_eq (x1 : Int) (N : Nat) : ∀ (n : Nat) (l : List Int) (i : Int), N - i.toNat ≤ n → 0 ≤ i → i < l.length → N ≤ l.length → l.length ≤ 1000000 → ∃ r, heap_down_l2 l x1 (N : Int) i = some r ∧ r.1.Perm l ∧ (Dn l N i.toNat → Hp r.1 N) ∧ ∀ k, N ≤ k → gd r.1 k = gd l k
  | n, l, i, hn, h0, hi, hN, hl => by
    rw [heap_down_l2]
    have e1 : iMul 2 i = 2 * i := iMul_eq (by omega) (by omega)
    have e2 : iAdd (iMul 2 i) 1 = 2 * i + 1 := by rw [e1]; exact iAdd_eq (by omega) (by omega)
    have e3 : iAdd (iAdd (iMul 2 i) 1) 1 = 2 * i + 2 := by rw [e2, iAdd_eq (by omega) (by omega)]; omega
    rw [e3, e2]
    have step : ∀ j : Int, i < j → j < (N : Int) → (j = 2 * i + 1 ∨ j = 2 * i + 2) → gd l j.toNat < gd l i.toNat → (∀ k, 0 < k → k < N → (k - 1) / 2 = i.toNat → gd l j.toNat ≤ gd l k) → ∃ r, (heap_down_l2 (swp l i.toNat j.toNat) x1 (N : Int) j) = some r ∧ r.1.Perm l ∧ (Dn l N i.toNat → Hp r.1 N) ∧ ∀ k, N ≤ k → gd r.1 k = gd l k := by
      intro j h1 h2 hj hlt hmin
      have hp := swp_perm l i.toNat j.toNat (by omega) (by omega)
      have hlen := swp_len l i.toNat j.toNat
      match n, hn with
      | 0, hn => omega
      | n + 1, hn =>
        obtain ⟨r, h3, h4, h5, h6⟩ := down_eq x1 N n (swp l i.toNat j.toNat) j (by omega) (by omega) (by rw [hlen]; omega) (by rw [hlen]; exact hN) (by rw [hlen]; exact hl)
        refine ⟨r, h3, h4.trans hp, fun h => h5 (h.swp hN (by omega) (by omega) (by omega) hlt hmin), fun k hk => ?_⟩
        rw [h6 k hk, swp_get l i.toNat j.toNat k (by omega) (by omega), if_neg (by omega), if_neg (by omega)]
    have go : ∀ j : Int, i < j → j < (N : Int) → (j = 2 * i + 1 ∨ j = 2 * i + 2) → (∀ k, 0 < k → k < N → (k - 1) / 2 = i.toNat → gd l j.toNat ≤ gd l k) → ∃ r, (bind (graph_ids_Less l j i) fun v => if (!v) = true then some (l, i) else bind (graph_ids_Swap l i j) fun v => if (decide ((List.length v : Nat) = List.length l)) = true then heap_down_l2 v x1 (N : Int) j else none) = some r ∧ r.1.Perm l ∧ (Dn l N i.toNat → Hp r.1 N) ∧ ∀ k, N ≤ k → gd r.1 k = gd l k := by
      intro j h1 h2 hj hmin
      rw [bind_some (less_eq l j i (by omega) (by omega) h0 hi)]
      split
      · rename_i hge
        have hge : ¬ gd l j.toNat < gd l i.toNat := by simpa using hge
        refine ⟨(l, i), rfl, .refl _, fun h k k1 k2 => ?_, fun _ _ => rfl⟩
        show gd l ((k - 1) / 2) ≤ gd l k
        by_cases hk : (k - 1) / 2 = i.toNat
        · have := hmin k k1 k2 hk
          rw [hk]
          omega
        · exact h.a k k1 k2 hk
      · rename_i hge
        have hlt : gd l j.toNat < gd l i.toNat := by simpa using hge
        rw [bind_some (swap_eq l i j h0 hi (by omega) (by omega)), if_pos (decide_eq_true (swp_len _ _ _))]
        exact step j h1 h2 hj hlt hmin
    by_cases h1 : (2 * i + 1 : Int) ≥ N
    · rw [if_pos (decide_eq_true h1)]; exact ⟨(l, i), rfl, .refl _, fun h k k1 k2 => h.a k k1 k2 (by omega), fun _ _ => rfl⟩
    · rw [if_neg (by simpa using h1), if_neg (by simp; omega)]
      by_cases h2 : (2 * i + 2 : Int) < N
      · rw [if_pos (decide_eq_true h2), bind_some (less_eq l (2 * i + 2) (2 * i + 1) (by omega) (by omega) (by omega) (by omega))]
        have two : ∀ k, 0 < k → (k - 1) / 2 = i.toNat → k = (2 * i + 1).toNat ∨ k = (2 * i + 2).toNat := fun k k1 k2 => by omega
        split
        · rename_i hv
          have hv : gd l (2 * i + 2).toNat < gd l (2 * i + 1).toNat := by simpa using hv
          exact go (2 * i + 2) (by omega) h2 (.inr rfl) fun k k1 _ k2 => by
            rcases two k k1 k2 with rfl | rfl <;> omega
        · rename_i hv
          have hv : ¬ gd l (2 * i + 2).toNat < gd l (2 * i + 1).toNat := by simpa using hv
          exact go (2 * i + 1) (by omega) (by omega) (.inl rfl) fun k k1 _ k2 => by
            rcases two k k1 k2 with rfl | rfl <;> omega
      · rw [if_neg (by simpa using h2)]
        exact go (2 * i + 1) (by omega) (by omega) (.inl rfl) fun k k1 k3 k2 => by
          have : k = (2 * i + 1).toNat := by omega
          subst this
          omega
theorem push_eq (l : List Int) (x : Int) (hl : l.length ≤ 65536) : ∃ l', heap_Push l x = some l' ∧ l'.Perm (l ++ [x]) ∧ (Hp l l.length → Hp l' l'.length) := by
  unfold heap_Push graph_ids_Push graph_ids_Len heap_up
  rw [if_pos (Nat.ble_eq_true_of_le (by simp only [List.length_singleton, reach]; omega))]
  simp only [bind, Option.bind_some]
  have e1 : iSub (((l ++ [x]).length : Nat) : Int) 1 = l.length := by
    rw [List.length_append, List.length_singleton, iSub_eq (by omega) (by omega)]; omega
  rw [e1]
  obtain ⟨l', h1, h2, h3⟩ := up_eq l.length (l ++ [x]) (l.length : Int) (by omega) (by omega) (by simp; omega) (by simp; omega)
  rw [h1]
  refine ⟨l', rfl, h2, fun h => h3 ⟨fun k k1 k2 k3 => ?_, fun k0 k k1 k2 k3 => ?_⟩⟩
  · rw [List.length_append, List.length_singleton] at k2
    have := h k k1 (by omega)
    have e : ∀ y, y < l.length → gd (l ++ [x]) y = gd l y := fun y hy => by simp [gd, List.getD, List.getElem?_append_left hy]
    rw [e _ (by omega), e _ (by omega)]
    exact this
  · rw [List.length_append, List.length_singleton] at k2
    omega
theorem pop_eq (l : List Int) (h0 : 0 < l.length) (hl : l.length ≤ 65536) : ∃ x l', heap_Pop l = some (x, l') ∧ (l' ++ [x]).Perm l ∧ (Hp l l.length → Hp l' l'.length ∧ ∀ y ∈ l, x ≤ y) := by
  unfold heap_Pop graph_ids_Len
  have e1 : iSub ((l.length : Nat) : Int) 1 = ((l.length - 1 : Nat) : Int) := by rw [iSub_eq (by omega) (by omega)]; omega
  simp only [bind, Option.bind_some, e1]
  rw [swap_eq l 0 ((l.length - 1 : Nat) : Int) (by omega) (by omega) (by omega) (by omega)]
  simp only [Option.bind_some]
  have hp := swp_perm l (0 : Int).toNat ((l.length - 1 : Nat) : Int).toNat (by simp; omega) (by omega)
  have hlen := swp_len l (0 : Int).toNat ((l.length - 1 : Nat) : Int).toNat
  rw [if_pos (decide_eq_true hlen)]
  unfold heap_down
  obtain ⟨r, h1, h2, h3, h4⟩ := down_eq 0 (l.length - 1) (l.length - 1) (swp l (0 : Int).toNat ((l.length - 1 : Nat) : Int).toNat) 0 (by omega) (by omega) (by rw [hlen]; omega) (by rw [hlen]; omega) (by rw [hlen]; omega)
  rw [h1]
  simp only [bind, Option.bind_some]
  have hrl : r.1.length = l.length := h2.length_eq.trans hlen
  unfold graph_ids_Pop
  have e2 : iSub ((r.1.length : Nat) : Int) 1 = ((l.length - 1 : Nat) : Int) := by rw [hrl]; exact e1
  rw [e2, if_pos (decide_eq_true (by omega)), if_pos (decide_eq_true (by omega)), if_pos (decide_eq_true (by omega))]
  refine ⟨_, _, rfl, ?_, ?_⟩
  rotate_left
  · intro h
    have e3 : (((l.length - 1 : Nat) : Int)).toNat = l.length - 1 := by omega
    rw [e3] at h3 h4 ⊢
    have sg := fun x => swp_get l (0 : Int).toNat (l.length - 1) x (by simp; omega) (by omega)
    have hh := h3 ⟨fun k k1 k2 k3 => by
      have := h k k1 (by omega)
      rw [show (0 : Int).toNat = 0 from rfl] at k3
      rw [sg, sg, show (0 : Int).toNat = 0 from rfl, if_neg (by omega), if_neg k3, if_neg (by omega), if_neg (by omega)]
      exact this, fun k0 => by simp at k0⟩
    constructor
    · intro k k1 k2
      rw [List.length_take] at k2
      have := hh k k1 (by omega)
      have e : ∀ y, y < l.length - 1 → gd (List.take (l.length - 1) r.1) y = gd r.1 y := fun y hy => by simp [gd, List.getD, List.getElem?_take, hy]
      rw [e _ (by omega), e _ (by omega)]
      exact this
    · intro y hy
      obtain ⟨k, hk, rfl⟩ := List.mem_iff_getElem.1 hy
      have h5 := h4 (l.length - 1) (Nat.le_refl _)
      rw [sg, if_pos rfl] at h5
      have h6 := h.least k hk
      have h7 : gd l k = l[k] := by simp [gd, List.getD, hk]
      show gd r.1 (l.length - 1) ≤ l[k]
      rw [h5, ← h7]
      exact h6
  have e3 : (((l.length - 1 : Nat) : Int)).toNat = l.length - 1 := by omega
  rw [e3]
  have e4 : List.take (l.length - 1) r.1 ++ [r.1.getD (l.length - 1) 0] = r.1 := by
    have hlt : l.length - 1 < r.1.length := by omega
    have := List.take_append_getElem hlt
    rw [List.getD_eq_getElem?_getD, List.getElem?_eq_getElem hlt]
    simp only [Option.getD_some]
    rw [this]
    exact List.take_of_length_le (by omega)
  rw [e4]
  exact h2.trans hp
theorem short : ∀ (n : Nat) (l : List Int), l.Nodup → (∀ x ∈ l, 0 ≤ x ∧ x < (n : Int)) → l.length ≤ n
  | 0, l, _, h => by
    cases l with
    | nil => simp
    | cons x l => have := h x (by simp); omega
  | n + 1, l, hn, h => by
    have h1 := short n (l.erase (n : Int)) (hn.erase _) fun x hx => by
      have h2 := h x (List.mem_of_mem_erase hx)
      have h3 : x ≠ (n : Int) := fun e => by
        subst e
        exact (List.Nodup.not_mem_erase hn) hx
      omega
    have h4 : l.length ≤ (l.erase (n : Int)).length + 1 := by
      rw [List.length_erase]
      split <;> omega
    omega
end Go.Bm.GoYtldkmmnffjdliaa
