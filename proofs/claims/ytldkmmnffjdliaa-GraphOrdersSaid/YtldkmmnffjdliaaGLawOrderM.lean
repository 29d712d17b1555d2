/- The order of functions: each stands behind all that it calls, each once, the least first. -/
import Derived.Test.YtldkmmnffjdliaaGLawHeapM
namespace Go.Bm.GoYtldkmmnffjdliaa
set_option autoImplicit false
set_option linter.unusedVariables false
set_option linter.unusedSimpArgs false
set_option maxRecDepth 100000
/-- How many callees are not there yet. -/
def lack (c : List W32) (out : List Int) (f : Nat) : Nat := bsum (fun b => (List.getD c f 0#32).getLsbD b && !decide ((b : Int) ∈ out)) 32
theorem lack_snoc_has {c : List W32} {out : List Int} {f : Nat} {x : Nat} (hx : x < 32) (hn : (x : Int) ∉ out) (hb : (List.getD c f 0#32).getLsbD x = true) : lack c (out ++ [(x : Int)]) f + 1 = lack c out f := by
  refine bsum_clear (k := x) hx (by simp only [hb, hn, decide_false, Bool.not_false, Bool.and_self]) (by simp) fun i hi => ?_
  have : ((i : Int) ∈ out ++ [(x : Int)]) ↔ (i : Int) ∈ out := by simp; omega
  simp only [this]
theorem lack_snoc_not {c : List W32} {out : List Int} {f : Nat} {x : Nat} (hb : ¬ (List.getD c f 0#32).getLsbD x = true) : lack c (out ++ [(x : Int)]) f = lack c out f := by
  refine bsum_congr fun i hi => ?_
  by_cases h : i = x
  · subst h
    have : (List.getD c f 0#32).getLsbD i = false := by simpa using hb
    rw [this, Bool.false_and, Bool.false_and]
  · have : ((i : Int) ∈ out ++ [(x : Int)]) ↔ (i : Int) ∈ out := by simp; omega
    simp only [this]
structure Mid (c : List W32) (n : Nat) (out : List Int) (x : Nat) (ready wait : List Int) (g : Nat) : Prop where
  wl : wait.length = n
  nd : (out ++ [(x : Int)] ++ ready).Nodup
  rng : ∀ y ∈ out ++ [(x : Int)] ++ ready, 0 ≤ y ∧ y < (n : Int)
  lt : ∀ h, h < g → h < n → List.getD wait h 0 = (lack c (out ++ [(x : Int)]) h : Int)
  ge : ∀ h, g ≤ h → h < n → List.getD wait h 0 = (lack c out h : Int)
  zer : ∀ h : Nat, h < n → ((h : Int) ∈ out ++ [(x : Int)] ++ ready ↔ List.getD wait h 0 = 0)
  hp : Hp ready ready.length
theorem getD_set_int (l : List Int) (i j : Nat) (x : Int) (hi : i < l.length) : List.getD (l.set i x) j 0 = if j = i then x else List.getD l j 0 := by
  by_cases h : j = i
  · subst h; simp [List.getD, hi]
  · have : i ≠ j := fun e => h e.symm
    rw [if_neg h]
    simp [List.getD, List.getElem?_set, this]
theorem order_l19 (c : List W32) (n : Nat) (hn : n ≤ 32) (hc : c.length = n) (out : List Int) (x : Nat) (hx : x < n) (x3 : List Int) : ∀ (m g : Nat) (wait ready : List Int), g + m = n → Mid c n out x ready wait g → ∃ wait' ready', graph_Order_l19 c wait ready x3 (x : Int) (n : Int) (g : Int) = some (wait', ready') ∧ Mid c n out x ready' wait' n
  | 0, g, wait, ready, h, hm => by
    rw [graph_Order_l19, if_neg (by simp only [decide_eq_true_eq]; omega)]
    have : g = n := by omega
    subst this
    exact ⟨wait, ready, rfl, hm⟩
  | m + 1, g, wait, ready, h, hm => by
    have hwl := hm.wl
    have hnx : (x : Int) ∉ out := fun hin => by
      have := hm.nd
      rw [List.append_assoc, List.nodup_append] at this
      exact this.2.2 _ hin _ (by simp) rfl
    rw [graph_Order_l19, if_pos (decide_eq_true (by omega)), if_pos (decide_eq_true (by omega)), if_pos (decide_eq_true (by omega)), Int.toNat_natCast, bind_some (show sets_Has (List.getD c g 0#32) (x : Int) = some ((List.getD c g 0#32).getLsbD x) by rw [has_eq, if_pos (by omega), Int.toNat_natCast]), inc g (by omega)]
    have hgw := hm.ge g (Nat.le_refl _) (by omega)
    by_cases hb : (List.getD c g 0#32).getLsbD x = true
    · have hl := lack_snoc_has (c := c) (f := g) (by omega) hnx hb
      have hsub : iSub (List.getD wait g 0) 1 = (lack c (out ++ [(x : Int)]) g : Int) := by
        rw [hgw, iSub_eq (by omega) (by have := bsum_le (fun b => (List.getD c g 0#32).getLsbD b && !decide ((b : Int) ∈ out)) 32; unfold lack; omega)]
        omega
      rw [if_pos hb, if_pos (decide_eq_true (by omega)), hsub, getD_set_int _ _ _ _ (by omega), if_pos rfl]
      have hng : (g : Int) ∉ out ++ [(x : Int)] ++ ready := fun hin => by
        have := (hm.zer g (by omega)).1 hin
        omega
      by_cases h0 : lack c (out ++ [(x : Int)]) g = 0
      · rw [if_pos (eqT (by omega))]
        have hsz := short n ready (List.nodup_append.1 hm.nd).2.1 (fun y hy => hm.rng y (List.mem_append_right _ hy))
        obtain ⟨ready', q1, q2, q3⟩ := push_eq ready (g : Int) (by omega)
        rw [bind_some q1]
        have hmem : ∀ y, y ∈ out ++ [(x : Int)] ++ ready' ↔ y ∈ out ++ [(x : Int)] ++ ready ∨ y = (g : Int) := fun y => by
          simp only [List.mem_append, q2.mem_iff, List.mem_singleton, or_assoc]
        refine order_l19 c n hn hc out x hx x3 m (g + 1) _ ready' (by omega) ⟨by simpa using hwl, ?_, fun y hy => ?_, fun h h1 h2 => ?_, fun h h1 h2 => ?_, fun h h2 => ?_, q3 hm.hp⟩
        · have : (out ++ [(x : Int)] ++ ready').Perm (out ++ [(x : Int)] ++ ready ++ [(g : Int)]) := by
            rw [List.append_assoc (out ++ [(x : Int)])]
            exact q2.append_left _
          rw [this.nodup_iff, List.nodup_append]
          refine ⟨hm.nd, by simp, fun a ha b hb => ?_⟩
          rw [List.mem_singleton] at hb
          subst hb
          exact fun e => hng (e ▸ ha)
        · rcases (hmem y).1 hy with h1 | rfl
          · exact hm.rng y h1
          · omega
        · rw [getD_set_int _ _ _ _ (by omega)]
          split
          · rename_i e; subst e; rfl
          · exact hm.lt h (by omega) h2
        · rw [getD_set_int _ _ _ _ (by omega), if_neg (by omega)]
          exact hm.ge h (by omega) h2
        · rw [hmem, getD_set_int _ _ _ _ (by omega)]
          split
          · rename_i e; subst e; simp [h0]
          · rename_i e
            rw [← hm.zer h h2]
            constructor
            · rintro (h1 | h1)
              · exact h1
              · omega
            · exact .inl
      · rw [if_neg (eqF (by omega))]
        refine order_l19 c n hn hc out x hx x3 m (g + 1) _ ready (by omega) ⟨by simpa using hwl, hm.nd, hm.rng, fun h h1 h2 => ?_, fun h h1 h2 => ?_, fun h h2 => ?_, hm.hp⟩
        · rw [getD_set_int _ _ _ _ (by omega)]
          split
          · rename_i e; subst e; rfl
          · exact hm.lt h (by omega) h2
        · rw [getD_set_int _ _ _ _ (by omega), if_neg (by omega)]
          exact hm.ge h (by omega) h2
        · rw [getD_set_int _ _ _ _ (by omega)]
          split
          · rename_i e; subst e
            exact iff_of_false hng (by omega)
          · exact hm.zer h h2
    · rw [if_neg hb]
      have hl := lack_snoc_not (c := c) (out := out) (f := g) hb
      refine order_l19 c n hn hc out x hx x3 m (g + 1) wait ready (by omega) ⟨hwl, hm.nd, hm.rng, fun h h1 h2 => ?_, fun h h1 h2 => hm.ge h (by omega) h2, hm.zer, hm.hp⟩
      by_cases e : h = g
      · subst e; rw [hgw, hl]
      · exact hm.lt h (by omega) h2
structure Ord (fs : FS) (c : List W32) (n : Nat) (out ready wait : List Int) : Prop where
  wl : wait.length = n
  nd : (out ++ ready).Nodup
  rng : ∀ y ∈ out ++ ready, 0 ≤ y ∧ y < (n : Int)
  cnt : ∀ h, h < n → List.getD wait h 0 = (lack c out h : Int)
  zer : ∀ h : Nat, h < n → ((h : Int) ∈ out ++ ready ↔ List.getD wait h 0 = 0)
  top : ∀ k, k < out.length → ∀ b, Edge fs (List.getD out k 0).toNat b → (b : Int) ∈ out.take k
  hp : Hp ready ready.length
  lst : ∀ k, k < out.length → ∀ f : Nat, f < n → (f : Int) ∉ out.take k → (∀ b, Edge fs f b → (b : Int) ∈ out.take k) → List.getD out k 0 ≤ (f : Int)
theorem lack_zero {fs : FS} {c : List W32} {n : Nat} (hcb : ∀ x b, x < n → ((List.getD c x 0#32).getLsbD b = true ↔ b < 32 ∧ Edge fs x b)) (he : ∀ x b, Edge fs x b → b < 32) {out : List Int} {f : Nat} (hf : f < n) (h : lack c out f = 0) : ∀ b, Edge fs f b → (b : Int) ∈ out := by
  intro b hb
  have h1 := bsum_zero.1 h b (he f b hb)
  rw [(hcb f b hf).2 ⟨he f b hb, hb⟩, Bool.true_and] at h1
  simpa using h1
theorem order_l15 (fs : FS) (c : List W32) (n : Nat) (hn : n ≤ 32) (hc : c.length = n) (hcb : ∀ x b, x < n → ((List.getD c x 0#32).getLsbD b = true ↔ b < 32 ∧ Edge fs x b)) (he : ∀ x b, Edge fs x b → b < 32) : ∀ (m : Nat) (out ready wait : List Int), n + 1 ≤ out.length + m → Ord fs c n out ready wait → ∃ out' wait', graph_Order_l15 c wait ready out = some out' ∧ Ord fs c n out' [] wait'
  | m, out, ready, wait, hm, ho => by
    have hsz := short n _ ho.nd ho.rng
    rw [List.length_append] at hsz
    rw [graph_Order_l15]
    unfold graph_ids_Len
    simp only [bind, Option.bind_some]
    by_cases hr : 0 < ready.length
    · rw [if_pos (decide_eq_true (by omega))]
      obtain ⟨xi, ready1, q1, q2, q3⟩ := pop_eq ready hr (by omega)
      have hxr : xi ∈ ready := q2.mem_iff.1 (by simp)
      have hxn := ho.rng xi (List.mem_append_right _ hxr)
      obtain ⟨x, rfl⟩ : ∃ x : Nat, xi = (x : Int) := ⟨xi.toNat, by omega⟩
      rw [q1]
      simp only [Option.bind_some]
      rw [if_pos (Nat.ble_eq_true_of_le (by simp only [List.length_singleton, reach]; omega))]
      have hperm : (out ++ [(x : Int)] ++ ready1).Perm (out ++ ready) := by
        rw [List.append_assoc]
        exact ((List.perm_append_comm (l₁ := [(x : Int)]) (l₂ := ready1)).trans q2).append_left out
      obtain ⟨wait2, ready2, g1, g2⟩ := order_l19 c n hn hc out x (by omega) (out ++ [(x : Int)]) n 0 wait ready1 (by omega) ⟨ho.wl, hperm.nodup_iff.2 ho.nd, fun y hy => ho.rng y (hperm.mem_iff.1 hy), fun h h1 => by omega, fun h _ h2 => ho.cnt h h2, fun h h2 => by rw [hperm.mem_iff]; exact ho.zer h h2, (q3 ho.hp).1⟩
      rw [show ((0 : Nat) : Int) = 0 from rfl] at g1
      rw [hc, g1]
      simp only [Option.bind_some]
      have hx0 : lack c out x = 0 := by
        have h1 := (ho.zer x (by omega)).1 (List.mem_append_right _ hxr)
        have h2 := ho.cnt x (by omega)
        omega
      match m, hm with
      | 0, hm => omega
      | m + 1, hm =>
        refine order_l15 fs c n hn hc hcb he m (out ++ [(x : Int)]) ready2 wait2 (by simp; omega) ⟨g2.wl, g2.nd, g2.rng, fun h h2 => g2.lt h h2 h2, g2.zer, fun k hk b hb => ?_, g2.hp, fun k hk f hf hnf hfe => ?_⟩
        · rw [List.length_append, List.length_singleton] at hk
          rw [getD_snoc] at hb
          split at hb
          · rename_i e
            subst e
            rw [Int.toNat_natCast] at hb
            rw [List.take_append_of_le_length (Nat.le_refl _), List.take_length]
            exact lack_zero hcb he (by omega) hx0 b hb
          · rw [List.take_append_of_le_length (by omega)]
            exact ho.top k (by omega) b hb
        · rw [List.length_append, List.length_singleton] at hk
          rw [getD_snoc]
          split
          · rename_i e
            subst e
            rw [List.take_append_of_le_length (Nat.le_refl _), List.take_length] at hnf hfe
            have h0 : lack c out f = 0 := bsum_zero.2 fun b hb => by
              cases hbit : (List.getD c f 0#32).getLsbD b with
              | false => rfl
              | true => simp [hfe b ((hcb f b hf).1 hbit).2]
            have h1 := ho.cnt f hf
            rw [h0] at h1
            have h2 := (ho.zer f hf).2 h1
            rcases List.mem_append.1 h2 with h2 | h2
            · exact absurd h2 hnf
            · exact (q3 ho.hp).2 _ h2
          · rename_i e
            rw [List.take_append_of_le_length (by omega)] at hnf hfe
            exact ho.lst k (by omega) f hf hnf hfe
    · rw [if_neg (by simp only [decide_eq_true_eq]; omega)]
      have : ready = [] := List.length_eq_zero_iff.1 (by omega)
      subst this
      exact ⟨out, wait, rfl, ho⟩
theorem order_l8 (c : List W32) (n : Nat) (hn : n ≤ 32) (hc : c.length = n) : ∀ (m i : Nat) (wait ready : List Int), i + m = n → wait.length = n → ready.Nodup → (∀ y ∈ ready, 0 ≤ y ∧ y < (i : Int)) → (∀ h, h < i → List.getD wait h 0 = (lack c [] h : Int)) → (∀ h : Nat, h < i → ((h : Int) ∈ ready ↔ List.getD wait h 0 = 0)) → Hp ready ready.length →
    ∃ wait' ready', graph_Order_l8 c wait ready (n : Int) (i : Int) = some (wait', ready') ∧ wait'.length = n ∧ ready'.Nodup ∧ (∀ y ∈ ready', 0 ≤ y ∧ y < (n : Int)) ∧ (∀ h, h < n → List.getD wait' h 0 = (lack c [] h : Int)) ∧ (∀ h : Nat, h < n → ((h : Int) ∈ ready' ↔ List.getD wait' h 0 = 0)) ∧ Hp ready' ready'.length
  | 0, i, wait, ready, h, h1, h2, h3, h4, h5, h6 => by
    rw [graph_Order_l8, if_neg (by simp only [decide_eq_true_eq]; omega)]
    have : i = n := by omega
    subst this
    exact ⟨wait, ready, rfl, h1, h2, h3, h4, h5, h6⟩
  | m + 1, i, wait, ready, h, h1, h2, h3, h4, h5, hhp => by
    rw [graph_Order_l8, if_pos (decide_eq_true (by omega)), if_pos (decide_eq_true (by omega)), if_pos (decide_eq_true (by omega)), Int.toNat_natCast, bind_some (count_eq _), if_pos (decide_eq_true (by omega)), inc i (by omega), getD_set_int _ _ _ _ (by omega), if_pos rfl]
    have hl : bsum (fun b => (List.getD c i 0#32).getLsbD b) 32 = lack c [] i := bsum_congr fun b _ => by simp
    rw [hl]
    have hni : (i : Int) ∉ ready := fun hin => by have := h3 _ hin; omega
    by_cases h0 : lack c [] i = 0
    · rw [if_pos (eqT (by omega))]
      have hsz := short i ready h2 h3
      obtain ⟨ready', q1, q2, q3⟩ := push_eq ready (i : Int) (by omega)
      rw [bind_some q1]
      have hmem : ∀ y, y ∈ ready' ↔ y ∈ ready ∨ y = (i : Int) := fun y => by rw [q2.mem_iff]; simp
      refine order_l8 c n hn hc m (i + 1) _ ready' (by omega) (by simpa using h1) ?_ (fun y hy => ?_) (fun h hh => ?_) (fun h hh => ?_) (q3 hhp)
      · rw [q2.nodup_iff, List.nodup_append]
        refine ⟨h2, by simp, fun a ha b hb => ?_⟩
        rw [List.mem_singleton] at hb
        subst hb
        exact fun e => hni (e ▸ ha)
      · rcases (hmem y).1 hy with hy | rfl
        · have := h3 y hy; omega
        · omega
      · rw [getD_set_int _ _ _ _ (by omega)]
        split
        · rename_i e; subst e; rfl
        · exact h4 h (by omega)
      · rw [hmem, getD_set_int _ _ _ _ (by omega)]
        split
        · rename_i e; subst e; simp [h0]
        · rw [← h5 h (by omega)]
          constructor
          · rintro (h6 | h6)
            · exact h6
            · omega
          · exact .inl
    · rw [if_neg (eqF (by omega))]
      refine order_l8 c n hn hc m (i + 1) _ ready (by omega) (by simpa using h1) h2 (fun y hy => by have := h3 y hy; omega) (fun h hh => ?_) (fun h hh => ?_) hhp
      · rw [getD_set_int _ _ _ _ (by omega)]
        split
        · rename_i e; subst e; rfl
        · exact h4 h (by omega)
      · rw [getD_set_int _ _ _ _ (by omega)]
        split
        · rename_i e; subst e; exact iff_of_false hni (by omega)
        · exact h5 h (by omega)
theorem shortN (n : Nat) (l : List Nat) (hd : l.Nodup) (h : ∀ x ∈ l, x < n) : l.length ≤ n := by
  have := short n (l.map Int.ofNat) (by
    rw [List.nodup_iff_pairwise_ne, List.pairwise_map]
    exact (List.nodup_iff_pairwise_ne.1 hd).imp fun {a b} (h : a ≠ b) => fun e => h (Int.ofNat.inj e)) (fun x hx => by
    obtain ⟨y, hy, rfl⟩ := List.mem_map.1 hx
    have := h y hy
    exact ⟨Int.natCast_nonneg y, by show (y : Int) < n; omega⟩)
  simpa using this
theorem no_chain {fs : FS} {n : Nat} {S : Nat → Prop} (hS : ∀ x, S x → x < n) (hstep : ∀ x, S x → ∃ y, S y ∧ Edge fs x y) (hac : ∀ f, f < n → ¬ Trans fs f f) : ∀ (m : Nat) (V : List Nat) (u : Nat), V.Nodup → (∀ v ∈ V, v < n ∧ Trans fs v u) → u ∉ V → S u → n ≤ V.length + m → False
  | m, V, u, hd, hV, hu, hs, hl => by
    have h1 : (u :: V).Nodup := List.nodup_cons.2 ⟨hu, hd⟩
    have h2 := shortN n (u :: V) h1 fun x hx => by
      rcases List.mem_cons.1 hx with rfl | hx
      · exact hS _ hs
      · exact (hV x hx).1
    rw [List.length_cons] at h2
    match m, hl with
    | 0, hl => omega
    | m + 1, hl =>
      obtain ⟨y, hy, e⟩ := hstep u hs
      have huy : Trans fs u y := ⟨y, e, .refl _⟩
      refine no_chain hS hstep hac m (u :: V) y h1 (fun v hv => ?_) (fun hv => ?_) hy (by rw [List.length_cons]; omega)
      · rcases List.mem_cons.1 hv with rfl | hv
        · exact ⟨hS _ hs, huy⟩
        · exact ⟨(hV v hv).1, (hV v hv).2.trans huy⟩
      · rcases List.mem_cons.1 hv with rfl | hv
        · exact hac _ (hS _ hs) huy
        · exact hac _ (hV _ hv).1 ((hV _ hv).2.trans huy)
theorem Good.trans {p : api_Program} (h : Good p) (f : Nat) (hf : f < p.funcs.length) : ¬ Trans p.funcs f f := by
  rintro ⟨c, ⟨i, h1, h2, h3⟩, h4⟩
  exact h.acyc f i hf h1 ⟨h2, c, h3, h4⟩
/-- All functions, each behind what it calls. -/
structure Topo (fs : FS) (out : List Int) : Prop where
  nd : out.Nodup
  rng : ∀ y ∈ out, 0 ≤ y ∧ y < (fs.length : Int)
  all : ∀ f : Nat, f < fs.length → (f : Int) ∈ out
  top : ∀ k, k < out.length → ∀ b, Edge fs (List.getD out k 0).toNat b → (b : Int) ∈ out.take k
  lst : ∀ k, k < out.length → ∀ f : Nat, f < fs.length → (f : Int) ∉ out.take k → (∀ b, Edge fs f b → (b : Int) ∈ out.take k) → List.getD out k 0 ≤ (f : Int)
theorem order_good (p : api_Program) (hg : Good p) (hk : prog_Check p = some (0, 0, 0)) : ∃ out, graph_Order p = some (0, out) ∧ Topo p.funcs out := by
  obtain ⟨c, q1, q2, q3⟩ := callees_eq p (by have := hg.funcs; omega) (fun f => by have := hg.le f; omega)
  have hn := hg.funcs.2
  have he : ∀ x b, Edge p.funcs x b → b < 32 := fun x b e => by have := (e.lt hg.calls).2; omega
  unfold graph_Order
  rw [bind_some hk, if_neg (by decide), bind_some q1, if_pos (decide_eq_true (by omega)), if_pos (decide_eq_true (by simp only [reach]; omega)), Int.toNat_natCast, q2]
  obtain ⟨wait, ready, g1, g2, g3, g4, g5, g6, g7⟩ := order_l8 c p.funcs.length (by omega) q2 p.funcs.length 0 (List.replicate p.funcs.length 0) [] (by omega) (by simp) (by simp) (by simp) (fun h hh => by omega) (fun h hh => by omega) (fun k _ h => by simp at h)
  rw [show ((0 : Nat) : Int) = 0 from rfl] at g1
  rw [bind_some g1]
  obtain ⟨out, wait', k1, k2⟩ := order_l15 p.funcs c p.funcs.length (by omega) q2 q3 he (p.funcs.length + 1) [] ready wait (by simp) ⟨g2, by simpa using g3, by simpa using g4, g5, by simpa using g6, (fun k hk => by simp at hk), g7, (fun k hk => by simp at hk)⟩
  rw [bind_some k1]
  refine ⟨out, rfl, by simpa using k2.nd, by simpa using k2.rng, fun f hf => ?_, k2.top, k2.lst⟩
  apply Classical.byContradiction
  intro hno
  have hS : ∀ x, (x < p.funcs.length ∧ (x : Int) ∉ out) → ∃ y, (y < p.funcs.length ∧ (y : Int) ∉ out) ∧ Edge p.funcs x y := by
    rintro x ⟨hx, hxo⟩
    apply Classical.byContradiction
    intro hall
    have h0 : lack c out x = 0 := by
      refine bsum_zero.2 fun b hb => ?_
      cases hbit : (List.getD c x 0#32).getLsbD b with
      | false => rfl
      | true =>
        have e := ((q3 x b hx).1 hbit).2
        have hbn := (e.lt hg.calls).2
        have hin : (b : Int) ∈ out := by
          apply Classical.byContradiction
          intro h
          exact hall ⟨b, ⟨hbn, h⟩, e⟩
        simp [hin]
    have h1 := k2.cnt x hx
    rw [h0] at h1
    have := (k2.zer x hx).2 h1
    rw [List.append_nil] at this
    exact hxo this
  exact no_chain (n := p.funcs.length) (S := fun x => x < p.funcs.length ∧ (x : Int) ∉ out) (fun x h => h.1) hS hg.trans p.funcs.length [] f (by simp) (by simp) (by simp) ⟨hf, hno⟩ (by simp)
theorem order_bad (p : api_Program) {a b e : Int} (hk : prog_Check p = some (a, b, e)) (he : e ≠ 0) : graph_Order p = some (e, []) := by
  unfold graph_Order
  rw [bind_some hk, if_pos (by simpa using he)]
end Go.Bm.GoYtldkmmnffjdliaa
