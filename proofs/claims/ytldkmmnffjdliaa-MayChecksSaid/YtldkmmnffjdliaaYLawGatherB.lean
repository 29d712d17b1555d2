/- What functions may do: the program's gatherings, and the laws KillTells and KillCalls. -/
import Derived.Test.YtldkmmnffjdliaaYLawReach
namespace Go.Bm.GoYtldkmmnffjdliaa
set_option autoImplicit false
set_option linter.unusedVariables false
set_option linter.unusedSimpArgs false
set_option maxRecDepth 100000
/-- Something is so of a node of what a function comes to. -/
def May (fs : FS) (of : api_Node → W32) (f b : Nat) : Prop := ∃ g, Path fs f g ∧ ∃ j, j < (List.getD fs g []).length ∧ (of (List.getD (List.getD fs g []) j d_api_Node)).getLsbD b = true
theorem getD_set_w (l : List W32) (i j : Nat) (x : W32) (hi : i < l.length) : List.getD (l.set i x) j 0#32 = if j = i then x else List.getD l j 0#32 := by
  by_cases h : j = i
  · subst h; simp [List.getD, hi]
  · have : i ≠ j := fun e => h e.symm
    rw [if_neg h]
    simp [List.getD, List.getElem?_set, this]
theorem mem_take_getD {l : List Int} {k : Nat} {y : Int} (h : y ∈ l.take k) : ∃ i, i < k ∧ i < l.length ∧ List.getD l i 0 = y := by
  obtain ⟨i, hi, e⟩ := List.mem_iff_getElem.1 h
  rw [List.length_take] at hi
  refine ⟨i, by omega, by omega, ?_⟩
  rw [List.getElem_take] at e
  rw [← e]
  simp [List.getD, show i < l.length by omega]
def ofU (x : api_Node) : W32 := if x.kind = 4 then one x.arg else 0#32
def ofT (x : api_Node) : W32 := if x.kind = 1 ∨ x.kind = 2 then one x.arg else 0#32
def ofB (x : api_Node) : W32 := if x.kind = 5 then 1#32 else 0#32
theorem ofB_eq (x : api_Node) : kill_begins x = some (ofB x) := by
  unfold kill_begins ofB
  by_cases h : x.kind = 5
  · rw [if_pos (eqT h), if_pos h]
  · rw [if_neg (eqF h), if_neg h]
theorem ofU_7 {x : api_Node} (h : x.kind = 7) : ofU x = 0#32 := by unfold ofU; rw [if_neg (by omega)]
theorem ofT_7 {x : api_Node} (h : x.kind = 7) : ofT x = 0#32 := by unfold ofT; rw [if_neg (by omega)]
theorem ofB_7 {x : api_Node} (h : x.kind = 7) : ofB x = 0#32 := by unfold ofB; rw [if_neg (by omega)]
theorem gatherB_l9 (p : api_Program) (hg : Good p) (f : Nat) (hf : f < p.funcs.length) (x1 : List Int) (x7 x8 : Int) : ∀ (m i : Nat) (o : List W32), i + m = (List.getD p.funcs f []).length → o.length = p.funcs.length → ∃ o', kill_gather_l9 o x1 p.globals p.locks p.slots p.funcs (f : Int) x7 x8 (List.getD p.funcs f []) ((List.getD p.funcs f []).length : Int) (i : Int) = some o' ∧ o'.length = p.funcs.length ∧ (∀ g, g ≠ f → List.getD o' g 0#32 = List.getD o g 0#32) ∧
    ∀ b, (List.getD o' f 0#32).getLsbD b = true ↔ (List.getD o f 0#32).getLsbD b = true ∨ ∃ j, i ≤ j ∧ j < (List.getD p.funcs f []).length ∧ (((List.getD (List.getD p.funcs f []) j d_api_Node).kind = 7 ∧ (List.getD o (List.getD (List.getD p.funcs f []) j d_api_Node).arg.toNat 0#32).getLsbD b = true) ∨ (ofB (List.getD (List.getD p.funcs f []) j d_api_Node)).getLsbD b = true)
  | 0, i, o, h, ho => by
    rw [kill_gather_l9, if_neg (by simp only [decide_eq_true_eq]; omega)]
    exact ⟨o, rfl, ho, fun g _ => rfl, fun b => ⟨.inl, fun h => h.elim (fun x => x) fun ⟨j, h1, h2, _⟩ => by omega⟩⟩
  | m + 1, i, o, h, ho => by
    have hle := hg.le f
    rw [kill_gather_l9, if_pos (decide_eq_true (by omega)), if_pos (decide_eq_true (by omega)), if_pos (decide_eq_true (by omega)), Int.toNat_natCast i, inc i (by omega)]
    have fin : ∀ (y : W32), (∀ b, y.getLsbD b = true ↔ (((List.getD (List.getD p.funcs f []) i d_api_Node).kind = 7 ∧ (List.getD o (List.getD (List.getD p.funcs f []) i d_api_Node).arg.toNat 0#32).getLsbD b = true) ∨ (ofB (List.getD (List.getD p.funcs f []) i d_api_Node)).getLsbD b = true)) →
        ∃ o', kill_gather_l9 (o.set f (List.getD o f 0#32 ||| y)) x1 p.globals p.locks p.slots p.funcs (f : Int) x7 x8 (List.getD p.funcs f []) ((List.getD p.funcs f []).length : Int) ((i + 1 : Nat) : Int) = some o' ∧ o'.length = p.funcs.length ∧ (∀ g, g ≠ f → List.getD o' g 0#32 = List.getD o g 0#32) ∧
        ∀ b, (List.getD o' f 0#32).getLsbD b = true ↔ (List.getD o f 0#32).getLsbD b = true ∨ ∃ j, i ≤ j ∧ j < (List.getD p.funcs f []).length ∧ (((List.getD (List.getD p.funcs f []) j d_api_Node).kind = 7 ∧ (List.getD o (List.getD (List.getD p.funcs f []) j d_api_Node).arg.toNat 0#32).getLsbD b = true) ∨ (ofB (List.getD (List.getD p.funcs f []) j d_api_Node)).getLsbD b = true) := by
      intro y hy
      obtain ⟨o', q1, q2, q3, q4⟩ := gatherB_l9 p hg f hf x1 x7 x8 m (i + 1) (o.set f (List.getD o f 0#32 ||| y)) (by omega) (by simpa using ho)
      refine ⟨o', q1, q2, fun g hgf => by rw [q3 g hgf, getD_set_w _ _ _ _ (by omega), if_neg hgf], fun b => ?_⟩
      rw [q4, getD_set_w _ _ _ _ (by omega), if_pos rfl, BitVec.getLsbD_or, Bool.or_eq_true, hy]
      have hsame : ∀ j, j < (List.getD p.funcs f []).length → (List.getD (List.getD p.funcs f []) j d_api_Node).kind = 7 → List.getD (o.set f (List.getD o f 0#32 ||| y)) (List.getD (List.getD p.funcs f []) j d_api_Node).arg.toNat 0#32 = List.getD o (List.getD (List.getD p.funcs f []) j d_api_Node).arg.toNat 0#32 := fun j hj hk => by
        rw [getD_set_w _ _ _ _ (by omega), if_neg]
        intro e
        have hc := hg.calls f j hf hj hk
        exact hg.acyc f j hf hj ⟨hk, f, by omega, .refl _⟩
      constructor
      · rintro ((h1 | h1) | ⟨j, h1, h2, h3⟩)
        · exact .inl h1
        · exact .inr ⟨i, Nat.le_refl _, by omega, h1⟩
        · refine .inr ⟨j, by omega, h2, h3.imp (fun h4 => ⟨h4.1, ?_⟩) fun x => x⟩
          rw [← hsame j h2 h4.1]; exact h4.2
      · rintro (h1 | ⟨j, h1, h2, h3⟩)
        · exact .inl (.inl h1)
        · rcases Nat.eq_or_lt_of_le h1 with rfl | h5
          · exact .inl (.inr h3)
          · refine .inr ⟨j, h5, h2, h3.imp (fun h4 => ⟨h4.1, ?_⟩) fun x => x⟩
            rw [hsame j h2 h4.1]; exact h4.2
    by_cases hk : (List.getD (List.getD p.funcs f []) i d_api_Node).kind = 7
    · have hc := hg.calls f i hf (by omega) hk
      rw [if_pos (eqT hk), if_pos (decide_eq_true (by omega)), if_pos (decide_eq_true (by omega)), if_pos (decide_eq_true hc.1), if_pos (decide_eq_true (by omega)), Int.toNat_natCast f]
      exact fin _ fun b => by rw [ofB_7 hk]; simp only [hk, true_and, BitVec.getLsbD_zero, Bool.false_eq_true, or_false]
    · rw [if_neg (eqF hk), if_pos (decide_eq_true (by omega)), if_pos (decide_eq_true (by omega)), bind_some (ofB_eq _), Int.toNat_natCast f]
      exact fin _ fun b => by simp only [hk, false_and, false_or]
theorem gatherB_l6 (p : api_Program) (hg : Good p) (out : List Int) (ht : Topo p.funcs out) : ∀ (m k : Nat) (o : List W32), k + m = out.length → o.length = p.funcs.length → (∀ f : Nat, (f : Int) ∈ out.take k → ∀ b, (List.getD o f 0#32).getLsbD b = true ↔ May p.funcs ofB f b) → (∀ f : Nat, (f : Int) ∉ out.take k → List.getD o f 0#32 = 0#32) →
    ∃ o', kill_gather_l6 o out p.globals p.locks p.slots p.funcs (out.length : Int) (k : Int) = some o' ∧ o'.length = p.funcs.length ∧ ∀ f : Nat, (f : Int) ∈ out → ∀ b, (List.getD o' f 0#32).getLsbD b = true ↔ May p.funcs ofB f b
  | 0, k, o, h, ho, h1, h2 => by
    rw [kill_gather_l6, if_neg (by simp only [decide_eq_true_eq]; omega)]
    rw [List.take_of_length_le (by omega)] at h1
    exact ⟨o, rfl, ho, h1⟩
  | m + 1, k, o, h, ho, h1, h2 => by
    have hn := hg.funcs.2
    have hol : out.length ≤ p.funcs.length := short _ _ ht.nd ht.rng
    have hlt : k < out.length := by omega
    have hgk : List.getD out k 0 = out[k] := by simp [List.getD, hlt]
    have hr := ht.rng _ (List.getElem_mem hlt)
    obtain ⟨f, hf⟩ : ∃ f : Nat, out[k] = (f : Int) := ⟨out[k].toNat, by omega⟩
    rw [hf] at hr
    have hgk' := hgk.trans hf
    rw [kill_gather_l6, if_pos (decide_eq_true (by omega)), if_pos (decide_eq_true (by omega)), if_pos (decide_eq_true (by omega)), Int.toNat_natCast k, hgk', if_pos (decide_eq_true (by omega)), if_pos (decide_eq_true (by omega)), Int.toNat_natCast f, inc k (by omega)]
    obtain ⟨o1, q1, q2, q3, q4⟩ := gatherB_l9 p hg f (by omega) out (out.length : Int) (k : Int) (List.getD p.funcs f []).length 0 o (by omega) ho
    rw [show ((0 : Nat) : Int) = 0 from rfl] at q1
    rw [bind_some q1]
    have htk : out.take (k + 1) = out.take k ++ [(f : Int)] := by rw [← List.take_append_getElem hlt, hf]
    have hnew : (f : Int) ∉ out.take k := fun hin => by
      obtain ⟨i, i1, i2, i3⟩ := mem_take_getD hin
      have e1 : out[i] = out[k] := by
        rw [hf, ← i3]; simp [List.getD, i2]
      have := (List.getElem_inj ht.nd).1 e1
      omega
    refine gatherB_l6 p hg out ht m (k + 1) o1 (by omega) q2 (fun g hgm b => ?_) fun g hgm => ?_
    · rw [htk, List.mem_append, List.mem_singleton] at hgm
      by_cases hgf : g = f
      · subst hgf
        rw [q4, h2 g hnew]
        simp only [BitVec.getLsbD_zero, Bool.false_eq_true, false_or]
        constructor
        · rintro ⟨j, _, j2, ⟨j3, j4⟩ | j3⟩
          · have hc := hg.calls g j (by omega) j2 j3
            obtain ⟨c, hcc⟩ : ∃ c : Nat, (List.getD (List.getD p.funcs g []) j d_api_Node).arg = (c : Int) := ⟨_, (Int.toNat_of_nonneg hc.1).symm⟩
            rw [hcc, Int.toNat_natCast] at j4
            have e : Edge p.funcs g c := ⟨j, j2, j3, hcc⟩
            have hct := ht.top k hlt c (by rw [hgk', Int.toNat_natCast]; exact e)
            obtain ⟨x, hx1, hx2⟩ := (h1 c hct b).1 j4
            exact ⟨x, .step _ _ _ e hx1, hx2⟩
          · exact ⟨g, .refl _, j, j2, j3⟩
        · rintro ⟨x, hx1, hx2⟩
          cases hx1 with
          | refl _ => obtain ⟨j, j1, j2⟩ := hx2; exact ⟨j, Nat.zero_le _, j1, .inr j2⟩
          | step _ c _ e hp =>
            obtain ⟨j, j1, j2, j3⟩ := e
            have hct := ht.top k hlt c (by rw [hgk', Int.toNat_natCast]; exact ⟨j, j1, j2, j3⟩)
            refine ⟨j, Nat.zero_le _, j1, .inl ⟨j2, ?_⟩⟩
            rw [j3, Int.toNat_natCast]
            exact (h1 c hct b).2 ⟨x, hp, hx2⟩
      · rw [q3 g hgf]
        exact h1 g (hgm.resolve_right (by omega)) b
    · rw [htk, List.mem_append, List.mem_singleton, not_or] at hgm
      rw [q3 g (by omega)]
      exact h2 g hgm.1
theorem gatherB_eq (p : api_Program) (hg : Good p) (hk : prog_Check p = some (0, 0, 0)) : ∃ o, kill_gather p = some (0, o) ∧ o.length = p.funcs.length ∧ ∀ f, f < p.funcs.length → ∀ b, (List.getD o f 0#32).getLsbD b = true ↔ May p.funcs ofB f b := by
  have hn := hg.funcs.2
  obtain ⟨out, q1, q2⟩ := order_good p hg hk
  unfold kill_gather
  rw [bind_some q1, if_neg (show ¬ ((0 : Int) != 0) = true by decide), if_pos (decide_eq_true (by omega)), if_pos (decide_eq_true (by simp only [reach]; omega)), Int.toNat_natCast]
  obtain ⟨o, g1, g2, g3⟩ := gatherB_l6 p hg out q2 out.length 0 (List.replicate p.funcs.length 0#32) (by omega) (by simp) (fun f hf => by simp at hf) (fun f _ => by
    simp only [List.getD, List.getElem?_replicate]
    split <;> rfl)
  rw [show ((0 : Nat) : Int) = 0 from rfl] at g1
  rw [bind_some g1]
  exact ⟨o, rfl, g2, fun f hf => g3 f (q2.all f hf)⟩
theorem gatherB_bad (p : api_Program) {a b e : Int} (hk : prog_Check p = some (a, b, e)) (he : e ≠ 0) : kill_gather p = some (e, []) := by
  unfold kill_gather
  rw [bind_some (order_bad p hk he), if_pos (by simpa using he)]
theorem begins_l6 (o : List W32) (ho : o.length ≤ 32) : ∀ (m f : Nat) (x : W32), f + m = o.length → ∃ x', kill_Begins_l6 o x (o.length : Int) (f : Int) = some x' ∧ ∀ b, x'.getLsbD b = true ↔ x.getLsbD b = true ∨ (f ≤ b ∧ b < o.length ∧ List.getD o b 0#32 ≠ 0#32)
  | 0, f, x, h => by
    rw [kill_Begins_l6, if_neg (by simp only [decide_eq_true_eq]; omega)]
    exact ⟨x, rfl, fun b => ⟨.inl, fun h => h.elim (fun x => x) fun ⟨h1, h2, _⟩ => by omega⟩⟩
  | m + 1, f, x, h => by
    rw [kill_Begins_l6, if_pos (decide_eq_true (by omega)), if_pos (decide_eq_true (by omega)), if_pos (decide_eq_true (by omega)), Int.toNat_natCast, inc f (by omega)]
    have hlt : (0#32 < List.getD o f 0#32) ↔ List.getD o f 0#32 ≠ 0#32 := by
      rw [BitVec.lt_def]
      constructor
      · intro h1 e; rw [e] at h1; exact absurd h1 (by decide)
      · intro h1
        have : (List.getD o f 0#32).toNat ≠ 0 := fun e => h1 (BitVec.eq_of_toNat_eq (by simpa using e))
        show (0#32).toNat < _
        rw [show (0#32).toNat = 0 from rfl]
        omega
    by_cases h0 : List.getD o f 0#32 ≠ 0#32
    · rw [if_pos (decide_eq_true (hlt.2 h0)), bind_some (one_eq _)]
      obtain ⟨x', q1, q2⟩ := begins_l6 o ho m (f + 1) (x ||| one (f : Int)) (by omega)
      refine ⟨x', q1, fun b => ?_⟩
      rw [q2, BitVec.getLsbD_or, Bool.or_eq_true, one_bit]
      constructor
      · rintro ((h1 | ⟨h1, _⟩) | ⟨h1, h2, h3⟩)
        · exact .inl h1
        · have : b = f := by omega
          subst this
          exact .inr ⟨Nat.le_refl _, by omega, h0⟩
        · exact .inr ⟨by omega, h2, h3⟩
      · rintro (h1 | ⟨h1, h2, h3⟩)
        · exact .inl (.inl h1)
        · rcases Nat.eq_or_lt_of_le h1 with rfl | h4
          · exact .inl (.inr ⟨rfl, by omega⟩)
          · exact .inr ⟨h4, h2, h3⟩
    · rw [if_neg (fun h1 => h0 (hlt.1 (of_decide_eq_true h1)))]
      obtain ⟨x', q1, q2⟩ := begins_l6 o ho m (f + 1) x (by omega)
      refine ⟨x', q1, fun b => ?_⟩
      rw [q2]
      constructor
      · rintro (h1 | ⟨h1, h2, h3⟩)
        · exact .inl h1
        · exact .inr ⟨by omega, h2, h3⟩
      · rintro (h1 | ⟨h1, h2, h3⟩)
        · exact .inl h1
        · rcases Nat.eq_or_lt_of_le h1 with rfl | h4
          · exact absurd h3 h0
          · exact .inr ⟨h4, h2, h3⟩
/-- A function may begin a thread. -/
def Spawns (fs : FS) (f : Nat) : Prop := ∃ g, Path fs f g ∧ ∃ j, j < (List.getD fs g []).length ∧ (List.getD (List.getD fs g []) j d_api_Node).kind = 5
theorem mayB {fs : FS} {f b : Nat} (h : May fs ofB f b) : Spawns fs f := by
  obtain ⟨g, h1, j, h2, h3⟩ := h
  refine ⟨g, h1, j, h2, ?_⟩
  unfold ofB at h3
  split at h3
  · assumption
  · simp at h3
theorem mayB0 {fs : FS} {f : Nat} (h : Spawns fs f) : May fs ofB f 0 := by
  obtain ⟨g, h1, j, h2, h3⟩ := h
  refine ⟨g, h1, j, h2, ?_⟩
  unfold ofB
  rw [if_pos h3]
  decide
theorem begins_eq (p : api_Program) (hg : Good p) (hk : prog_Check p = some (0, 0, 0)) : ∃ x, kill_Begins p = some (x, 0) ∧ ∀ b, x.getLsbD b = true ↔ b < p.funcs.length ∧ Spawns p.funcs b := by
  have hn := hg.funcs.2
  obtain ⟨o, q1, q2, q3⟩ := gatherB_eq p hg hk
  obtain ⟨x, g1, g2⟩ := begins_l6 o (by omega) o.length 0 0#32 (by omega)
  rw [show ((0 : Nat) : Int) = 0 from rfl] at g1
  unfold kill_Begins
  rw [bind_some q1, if_neg (show ¬ ((0 : Int) != 0) = true by decide), bind_some g1]
  refine ⟨x, rfl, fun b => ?_⟩
  rw [g2]
  constructor
  · rintro (h1 | ⟨_, h2, h3⟩)
    · simp at h1
    · obtain ⟨c, hc⟩ := ne_zero_iff.1 h3
      exact ⟨by omega, mayB ((q3 b (by omega) c).1 hc)⟩
  · rintro ⟨h1, h2⟩
    exact .inr ⟨Nat.zero_le _, by omega, ne_zero_iff.2 ⟨0, (q3 b h1 0).2 (mayB0 h2)⟩⟩
theorem begins_bad (p : api_Program) {a b e : Int} (hk : prog_Check p = some (a, b, e)) (he : e ≠ 0) : kill_Begins p = some (0#32, e) := by
  unfold kill_Begins
  rw [bind_some (gatherB_bad p hk he), if_pos (by simpa using he)]
theorem within_w {a b : W32} (h : ∀ i, a.getLsbD i = true → b.getLsbD i = true) : ¬ ((a &&& ~~~b) != 0#32) = true := by
  have : a &&& ~~~b = 0#32 := ext32 fun i hi => by
    rw [BitVec.getLsbD_and, BitVec.getLsbD_not]
    have := h i
    simp only [BitVec.getLsbD_zero, Bool.false_eq_true, iff_false, Bool.and_eq_true, not_and]
    intro h1 _
    rw [this h1]
    decide
  simp [this]
theorem May.up {fs : FS} {of : api_Node → W32} {f c b : Nat} (e : Edge fs f c) (h : May fs of c b) : May fs of f b := by
  obtain ⟨g, h1, h2⟩ := h
  exact ⟨g, .step _ _ _ e h1, h2⟩
end Go.Bm.GoYtldkmmnffjdliaa
