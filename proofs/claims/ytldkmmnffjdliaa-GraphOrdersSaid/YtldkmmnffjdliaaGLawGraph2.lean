/- The document's order of functions, and the law GraphOrders. -/
import Derived.Test.YtldkmmnffjdliaaGLawOrderM
namespace Go.Bm.GoYtldkmmnffjdliaa
set_option autoImplicit false
set_option linter.unusedVariables false
set_option linter.unusedSimpArgs false
set_option maxRecDepth 100000
theorem awake06 : alibilaw06_awake = some true := alibilaw06_awake_le 40 _ (by kernel_rfl)
theorem refhas6_l2 (l : List Int) (hl : l.length ≤ 65536) (z : Int) : ∀ (m i : Nat), i + m = l.length → alibiref06_has_l2 l z (i : Int) = some (if z ∈ l.drop i then .x0 true else .x1)
  | 0, i, h => by
    rw [alibiref06_has_l2, if_neg (by simp only [decide_eq_true_eq]; omega), List.drop_eq_nil_of_le (by omega), if_neg (by simp)]
  | m + 1, i, h => by
    have hlt : i < l.length := by omega
    have hd : l.drop i = l[i] :: l.drop (i + 1) := List.drop_eq_getElem_cons hlt
    have hg : List.getD l i 0 = l[i] := by simp [List.getD, hlt]
    rw [alibiref06_has_l2, if_pos (decide_eq_true (by omega)), if_pos (decide_eq_true (by omega)), if_pos (decide_eq_true (by omega)), Int.toNat_natCast, hg, hd, inc i (by omega)]
    by_cases e : l[i] = z
    · rw [if_pos (eqT e), if_pos (by rw [e]; simp)]
    · rw [if_neg (eqF e), refhas6_l2 l hl z m (i + 1) (by omega)]
      have : z ∈ l[i] :: l.drop (i + 1) ↔ z ∈ l.drop (i + 1) := by
        rw [List.mem_cons]
        exact ⟨fun h => h.elim (fun h => absurd h.symm e) fun h => h, .inr⟩
      simp only [this]
theorem refhas6_eq (l : List Int) (hl : l.length ≤ 65536) (z : Int) : alibiref06_has l z = some (decide (z ∈ l)) := by
  have q := refhas6_l2 l hl z l.length 0 (Nat.zero_add _)
  rw [show ((0 : Nat) : Int) = 0 from rfl, List.drop_zero] at q
  unfold alibiref06_has
  rw [bind_some q]
  by_cases h : z ∈ l
  · rw [if_pos h]; simp [h]
  · rw [if_neg h]; simp [h]
/-- A function may come next. -/
def Free (fs : FS) (out : List Int) (f : Nat) : Prop := (f : Int) ∉ out ∧ ∀ b, Edge fs f b → (b : Int) ∈ out
theorem reford_l10 (out calls : List Int) (ho : out.length ≤ 65536) (hc : calls.length ≤ 65536) (x2 x3 x4 : Int) (x5 : FS) (x6 x7 : Int) : ∀ (m i : Nat) (b : Bool), i + m = calls.length → ∃ b', alibiref06_Order_l10 out calls x2 x3 x4 x5 x6 x7 b (i : Int) = some b' ∧ (b' = true ↔ b = true ∧ ∀ x, x ∈ calls.drop i → x ∈ out)
  | 0, i, b, h => by
    rw [alibiref06_Order_l10, if_neg (by simp only [decide_eq_true_eq]; omega), List.drop_eq_nil_of_le (by omega)]
    exact ⟨b, rfl, by simp⟩
  | m + 1, i, b, h => by
    have hlt : i < calls.length := by omega
    have hd : calls.drop i = calls[i] :: calls.drop (i + 1) := List.drop_eq_getElem_cons hlt
    have hg : List.getD calls i 0 = calls[i] := by simp [List.getD, hlt]
    rw [alibiref06_Order_l10, if_pos (decide_eq_true (by omega)), inc i (by omega), hd]
    by_cases hb : b = true
    · rw [if_pos hb, if_pos (decide_eq_true (by omega)), if_pos (decide_eq_true (by omega)), Int.toNat_natCast, hg, bind_some (refhas6_eq out ho _)]
      obtain ⟨b', q1, q2⟩ := reford_l10 out calls ho hc x2 x3 x4 x5 x6 x7 m (i + 1) (decide (calls[i] ∈ out)) (by omega)
      refine ⟨b', q1, ?_⟩
      rw [q2, decide_eq_true_eq]
      constructor
      · rintro ⟨h1, h2⟩
        exact ⟨hb, fun x hx => (List.mem_cons.1 hx).elim (fun e => e ▸ h1) (h2 x)⟩
      · rintro ⟨_, h2⟩
        exact ⟨h2 _ List.mem_cons_self, fun x hx => h2 x (List.mem_cons_of_mem _ hx)⟩
    · rw [if_neg hb]
      obtain ⟨b', q1, q2⟩ := reford_l10 out calls ho hc x2 x3 x4 x5 x6 x7 m (i + 1) false (by omega)
      refine ⟨b', q1, ?_⟩
      rw [q2]
      exact ⟨fun h => (by cases h.1), fun h => absurd h.1 hb⟩
theorem reford_free (p : api_Program) (hg : Good p) (out : List Int) (ho : out.length ≤ 65536) (f : Nat) (x1 x2 x3 x5 x6 : Int) (x4 : FS) : ∃ t b, alibiref06_Named (List.getD p.funcs f []) 7 = some t ∧ alibiref06_Order_l10 out t x1 x2 x3 x4 x5 x6 (!decide ((f : Int) ∈ out)) 0 = some b ∧ (b = true ↔ Free p.funcs out f) := by
  have hle := hg.le f
  have hn := hg.funcs.2
  obtain ⟨t, q1, q2, q3⟩ := refnamed_eq (List.getD p.funcs f []) (by omega) 7
  have htl := q2.length_le (by omega)
  have htn := q2.nat
  obtain ⟨b, k1, k2⟩ := reford_l10 out t ho (by omega) x1 x2 x3 x4 x5 x6 t.length 0 (!decide ((f : Int) ∈ out)) (Nat.zero_add _)
  rw [show ((0 : Nat) : Int) = 0 from rfl] at k1
  refine ⟨t, b, q1, k1, ?_⟩
  rw [k2, List.drop_zero]
  unfold Free
  constructor
  · rintro ⟨h1, h2⟩
    refine ⟨by simpa using h1, fun c e => h2 _ ((q3 c).2 ⟨?_, e⟩)⟩
    have := (e.lt hg.calls).2
    omega
  · rintro ⟨h1, h2⟩
    refine ⟨by simpa using h1, fun x hx => ?_⟩
    have h0 := htn x hx
    obtain ⟨c, rfl⟩ : ∃ c : Nat, x = (c : Int) := ⟨x.toNat, by omega⟩
    exact h2 c ((q3 c).1 hx).2
theorem reford_l5 (p : api_Program) (hg : Good p) (out : List Int) (ho : out.length ≤ 65536) (x1 x2 x3 : Int) : ∀ (m : Nat) (x5 : Int), m ≤ p.funcs.length → ∃ v, alibiref06_Order_l5 out x1 x2 x3 p.funcs x5 ((m : Int) - 1) = some v ∧ (((∀ g, g < m → ¬ Free p.funcs out g) ∧ v = x5) ∨ ∃ g, g < m ∧ Free p.funcs out g ∧ (∀ g', g' < g → ¬ Free p.funcs out g') ∧ v = (g : Int))
  | 0, x5, h => by
    rw [alibiref06_Order_l5, if_neg (by simp only [decide_eq_true_eq]; omega)]
    exact ⟨x5, rfl, .inl ⟨fun g hg => by omega, rfl⟩⟩
  | m + 1, x5, h => by
    have hn := hg.funcs.2
    have e1 : ((m + 1 : Nat) : Int) - 1 = (m : Int) := by omega
    rw [alibiref06_Order_l5, e1, if_pos (decide_eq_true (by omega)), bind_some (refhas6_eq out ho _), if_pos (decide_eq_true (by omega)), if_pos (decide_eq_true (by omega)), Int.toNat_natCast]
    obtain ⟨t, b, q1, q2, q3⟩ := reford_free p hg out ho m x1 x2 x3 x5 (m : Int) p.funcs
    rw [bind_some q1, bind_some q2, iSub_eq (by omega) (by omega)]
    by_cases hb : b = true
    · rw [if_pos hb]
      obtain ⟨v, k1, k2⟩ := reford_l5 p hg out ho x1 x2 x3 m (m : Int) (by omega)
      refine ⟨v, k1, .inr ?_⟩
      rcases k2 with ⟨h1, h2⟩ | ⟨g, h1, h2, h3, h4⟩
      · exact ⟨m, by omega, q3.1 hb, h1, h2⟩
      · exact ⟨g, by omega, h2, h3, h4⟩
    · rw [if_neg hb]
      obtain ⟨v, k1, k2⟩ := reford_l5 p hg out ho x1 x2 x3 m x5 (by omega)
      refine ⟨v, k1, ?_⟩
      rcases k2 with ⟨h1, h2⟩ | ⟨g, h1, h2, h3, h4⟩
      · refine .inl ⟨fun g hgm => ?_, h2⟩
        rcases Nat.lt_or_ge g m with h3 | h3
        · exact h1 g h3
        · have : g = m := by omega
          subst this
          exact fun hf => hb (q3.2 hf)
      · exact .inr ⟨g, by omega, h2, h3, h4⟩
theorem topo_len {fs : FS} {out : List Int} (h : Topo fs out) (hn : fs.length ≤ 65536) : out.length = fs.length := by
  have h1 := short fs.length out h.nd h.rng
  have h2 := shortN out.length (List.range fs.length) List.nodup_range
  have h3 : fs.length ≤ out.length := by
    have hd : ((List.range fs.length).map Int.ofNat).Nodup := by
      rw [List.nodup_iff_pairwise_ne, List.pairwise_map]
      exact (List.nodup_iff_pairwise_ne.1 List.nodup_range).imp fun {a b} (h : a ≠ b) => fun e => h (Int.ofNat.inj e)
    have := hd.length_le_of_subset (l₂ := out) fun x hx => by
      obtain ⟨y, hy, rfl⟩ := List.mem_map.1 hx
      exact h.all y (List.mem_range.1 hy)
    simpa using this
  omega
theorem reford_l2 (p : api_Program) (hg : Good p) (out : List Int) (ht : Topo p.funcs out) (hlen : out.length = p.funcs.length) : ∀ (m k : Nat), k + m = out.length → alibiref06_Order_l2 (out.take k) p.globals p.locks p.slots p.funcs = some (.x1 out)
  | 0, k, h => by
    have htk : out.take k = out := List.take_of_length_le (by omega)
    rw [htk, alibiref06_Order_l2, if_neg (by simp only [decide_eq_true_eq]; omega)]
  | m + 1, k, h => by
    have hn := hg.funcs.2
    have hkl : (out.take k).length = k := by rw [List.length_take]; omega
    have hlt : k < out.length := by omega
    have e0 : iSub (p.funcs.length : Int) 1 = (p.funcs.length : Int) - 1 := iSub_eq (by omega) (by omega)
    obtain ⟨v, q1, q2⟩ := reford_l5 p hg (out.take k) (by omega) p.globals p.locks p.slots p.funcs.length (-1) (Nat.le_refl _)
    have hr := ht.rng out[k] (List.getElem_mem hlt)
    obtain ⟨x, hx⟩ : ∃ x : Nat, out[k] = (x : Int) := ⟨out[k].toNat, by omega⟩
    rw [hx] at hr
    have hgx : List.getD out k 0 = (x : Int) := by rw [← hx]; simp [List.getD, hlt]
    have hnin : (x : Int) ∉ out.take k := by
      intro hin
      obtain ⟨j, hj, e⟩ := List.mem_iff_getElem.1 hin
      rw [List.length_take] at hj
      rw [List.getElem_take, ← hx] at e
      have := (List.getElem_inj ht.nd).1 e
      omega
    have hfree : Free p.funcs (out.take k) x := ⟨hnin, fun b e => ht.top k hlt b (by rw [hgx, Int.toNat_natCast]; exact e)⟩
    have hv : v = (x : Int) := by
      rcases q2 with ⟨h1, _⟩ | ⟨g, h1, h2, h3, h4⟩
      · exact absurd hfree (h1 x (by omega))
      · have h5 := ht.lst k hlt g h1 h2.1 h2.2
        rw [hgx] at h5
        have h6 : ¬ x < g := fun h => h3 x h hfree
        omega
    rw [alibiref06_Order_l2, if_pos (decide_eq_true (by omega)), e0, bind_some q1, hv, if_neg (by simp only [decide_eq_true_eq]; omega), if_pos (Nat.ble_eq_true_of_le (by simp only [List.length_singleton, reach]; omega))]
    have hs : out.take k ++ [(x : Int)] = out.take (k + 1) := by
      rw [← hx]
      exact List.take_append_getElem hlt
    rw [hs]
    exact reford_l2 p hg out ht hlen m (k + 1) (by omega)
theorem reford_eq (p : api_Program) (hg : Good p) (out : List Int) (ht : Topo p.funcs out) : alibiref06_Order p = some out := by
  have hn := hg.funcs.2
  have q := reford_l2 p hg out ht (topo_len ht (by omega)) out.length 0 (Nat.zero_add _)
  rw [List.take_zero] at q
  unfold alibiref06_Order
  rw [bind_some q]
theorem orders_l11 (a : List Int) (ha : a.length ≤ 65536) : ∀ (m i : Nat), i + m = a.length → alibilaw06_GraphOrders_l11 a a (i : Int) = some .x1
  | 0, i, h => by
    rw [alibilaw06_GraphOrders_l11, if_neg (by simp only [decide_eq_true_eq]; omega)]
  | m + 1, i, h => by
    rw [alibilaw06_GraphOrders_l11, if_pos (decide_eq_true (by omega)), if_pos (decide_eq_true (by omega)), if_pos (decide_eq_true (by omega)), if_pos (decide_eq_true (by omega)), if_neg (by simp), inc i (by omega)]
    exact orders_l11 a ha m (i + 1) (by omega)
theorem graphOrders (p : api_Program) : alibilaw06_GraphOrders p = some true := by
  unfold alibilaw06_GraphOrders
  rw [bind_some awake06, if_neg (by decide)]
  obtain ⟨sm, s1, _⟩ := small_eq p
  rw [bind_some s1]
  cases sm with
  | false => rw [if_pos (by decide), bind_some awake06]
  | true =>
    rw [if_neg (by decide)]
    obtain ⟨⟨ra, rb, re⟩, r1, r2, r3, r4⟩ := check_eq p
    by_cases he : re = 0
    · obtain ⟨r5, hg⟩ := r3 he
      rw [r5] at r1 r2
      have hn := hg.funcs.2
      obtain ⟨out, o1, o2⟩ := order_good p hg r1
      have hl := topo_len o2 (by omega)
      rw [bind_some o1, bind_some r2, if_neg (by decide), bind_some (reford_eq p hg out o2), if_neg (show ¬ (((0 : Int)) != 0) = true by decide), if_neg (by simp), if_neg (by simp [hl])]
      have q := orders_l11 out (by omega) out.length 0 (Nat.zero_add _)
      rw [show ((0 : Nat) : Int) = 0 from rfl] at q
      rw [bind_some q]
    · rw [bind_some (order_bad p r1 he), bind_some r2, if_pos (by simpa using he), if_pos (by simp)]
      rfl
end Go.Bm.GoYtldkmmnffjdliaa
