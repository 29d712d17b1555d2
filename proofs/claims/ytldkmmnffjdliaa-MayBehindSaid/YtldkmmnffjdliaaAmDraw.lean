/- The abstract machine is sound: regions whose order is drawn. -/
import Derived.Test.YtldkmmnffjdliaaAmRegion
namespace Go.Am
set_option autoImplicit false
set_option linter.unusedVariables false
set_option linter.unusedSimpArgs false

section
variable {ops : List Oper} {st : St}

theorem tkOp_mem {o : Oper} {t : Nat} (h : tkOp o = some t) : t ∈ opTmps o := by
  obtain ⟨dst, op, type, pos, after, guard⟩ := o
  have key : ∀ x : Operand, tkOf x = some t → x ∈ op.operands.toList → t ∈ opTmps ⟨dst, op, type, pos, after, guard⟩ := fun x hx hm => List.mem_filterMap.2 ⟨x, hm, hx⟩
  cases op <;> simp only [tkOp] at h <;> first
    | (cases h; done)
    | (exact key _ h (by simp [Op.operands]))
    | skip
  rename_i c
  cases hc : c.callee with
  | builtin b =>
    rw [hc] at h
    cases b <;> simp only [] at h <;> first
      | (cases h; done)
      | skip
    cases ha : c.args.toList with
    | nil => rw [ha] at h; cases h
    | cons x l =>
      rw [ha] at h
      exact key x h (by simp only [Op.operands, Call.operands, hc]; simp [ha])
  | value f => rw [hc] at h; cases h
  | invoke r n => rw [hc] at h; cases h

theorem on_get (e : Eff) (dst : Option Nat) (st : St) (t : Nat) : (e.on dst st).tmps[t]? = if dst = some t then (st.tmps[t]?).map (fun _ => e.val) else if e.tk = some t then (st.tmps[t]?).map AV.borrow else st.tmps[t]? := by
  have h1 : (Am.dropRight st.tmps e.tk)[t]? = if e.tk = some t then (st.tmps[t]?).map AV.borrow else st.tmps[t]? := by
    cases e.tk with
    | none => simp [Am.dropRight]
    | some s =>
      simp only [Am.dropRight, List.getElem?_set]
      by_cases hs : s = t
      · subst hs
        simp only [if_true]
        by_cases hl : s < st.tmps.length
        · simp [hl, List.getD]
        · simp [hl]
      · simp [hs]
  cases dst with
  | none => simpa [Eff.on, setT] using h1
  | some d =>
    simp only [Eff.on, setT, List.getElem?_set]
    by_cases hd : d = t
    · subst hd
      have hl : (Am.dropRight st.tmps e.tk).length = st.tmps.length := by cases e.tk <;> simp [Am.dropRight]
      simp only [if_true, hl]
      by_cases hlt : d < st.tmps.length
      · simp [hlt]
      · simp [hlt]
    · simp only [if_neg hd, Option.some.injEq]
      exact h1

theorem on_heap (e : Eff) (dst : Option Nat) (st : St) : (e.on dst st).heap = putBlks st.heap e.hb := by cases dst <;> rfl

theorem getT_on {e : Eff} {dst : Option Nat} {st : St} {t : Nat} (hd : dst ≠ some t) : (getT (e.on dst st) t).borrow = (getT st t).borrow := by
  unfold getT
  rw [List.getD, List.getD, on_get, if_neg hd]
  split
  · cases st.tmps[t]? with
    | none => rfl
    | some v => cases v <;> rfl
  · rfl
theorem getT_on' {e : Eff} {dst : Option Nat} {st : St} {t : Nat} (hd : dst ≠ some t) (hk : e.tk ≠ some t) : getT (e.on dst st) t = getT st t := by
  unfold getT
  rw [List.getD, List.getD, on_get, if_neg hd, if_neg hk]

theorem tmps_comm (e1 e2 : Eff) (d1 d2 : Option Nat) (st : St) (h1 : ∀ t, d1 = some t → d2 ≠ some t) (h2 : ∀ t, e1.tk = some t → e2.tk ≠ some t) (h3 : ∀ t, d1 = some t → e2.tk ≠ some t) (h4 : ∀ t, d2 = some t → e1.tk ≠ some t) :
    (e2.on d2 (e1.on d1 st)).tmps = (e1.on d1 (e2.on d2 st)).tmps := by
  apply List.ext_getElem?
  intro t
  simp only [on_get]
  by_cases a1 : d1 = some t
  · have := h1 t a1
    have := h3 t a1
    simp [*]
  · by_cases a2 : d2 = some t
    · have := h4 t a2
      simp [*]
    · by_cases a3 : e1.tk = some t
      · have := h2 t a3
        simp [*]
      · simp [*]

theorem awayO_ne {l : List Nat} {d : Option Nat} (h : awayO l d = true) {t : Nat} (ht : t ∈ l) : d ≠ some t := by
  rintro rfl
  simp only [awayO, Bool.not_eq_true'] at h
  exact hasN_mem h ht
theorem optNe_ne {a b : Option Nat} (h : optNe a b = true) {t : Nat} (ha : a = some t) : b ≠ some t := by
  rintro rfl
  subst ha
  simp [optNe, Nat.beq_refl] at h

theorem take_set_ge {α : Type} (l : List α) (n b : Nat) (x : α) (h : n ≤ b) : (l.set b x).take n = l.take n := by
  apply List.ext_getElem?
  intro i
  rw [List.getElem?_take, List.getElem?_take, List.getElem?_set]
  by_cases hi : i < n
  · rw [if_pos hi, if_pos hi, if_neg (by omega)]
  · rw [if_neg hi, if_neg hi]

theorem gone_set {H : List Blk} {b c : Nat} {B : Blk} (h : b ≠ c) : gone? (H.set b B) c = gone? H c := by
  unfold gone?
  rw [List.length_set]
  have : getB (H.set b B) c = getB H c := by simp [getB, List.getD, List.getElem?_set, h]
  rw [this]

theorem rank_le (ops : List Oper) {j i : Nat} (h : j ≤ i) : rank ops j ≤ rank ops i := by
  unfold rank
  have : ops.take j = (ops.take i).take j := by rw [List.take_take, Nat.min_eq_left h]
  rw [this]
  exact (List.Sublist.filter _ (List.take_sublist _ _)).length_le
theorem rank_lt {j i : Nat} (h : j < i) {p : Oper} (hp : ops[j]? = some p) (hm : makesB p = true) : rank ops j < rank ops i := by
  have h1 := rank_le ops (show j + 1 ≤ i from h)
  have h2 : rank ops (j + 1) = rank ops j + 1 := by
    unfold rank
    have hj : j < ops.length := (List.getElem?_eq_some_iff.1 hp).1
    have e : ops[j] = p := (List.getElem?_eq_some_iff.1 hp).2
    rw [List.take_add_one, hp]
    simp [List.filter_append, hm]
  omega

theorem cls_makes {o : Oper} (h : clsOf ops o = .a) : makesB o = true := by
  obtain ⟨dst, op, type, pos, after, guard⟩ := o
  cases op <;> simp only [clsOf] at h <;> first
    | (cases h; done)
    | rfl
    | skip
  · cases hb : takesD ops dst <;> rw [hb] at h <;> cases h
  · rename_i c
    split at h <;> cases h

/-- The effects on memory. -/
theorem shape_cases {h0 ix len : Nat} {o : Oper} {hb : List (Nat × Blk)} (h : ShapeH ops h0 ix len o hb) :
    hb = [] ∨ ∃ b B, hb = [(b, B)] ∧ ((clsOf ops o = .a ∧ b = h0 + rank ops ix) ∨ (clsOf ops o = .t ∧ b < h0 + rank ops ix) ∨ (clsOf ops o = .s ∧ b < h0 + rank ops ix ∧ (h0 ≤ b ∨ noRS ops = true))) := by
  unfold ShapeH at h
  cases hc : clsOf ops o <;> rw [hc] at h <;> simp only [] at h
  · exact .inl h
  · exact .inl h
  · rcases h with h | ⟨B, h⟩
    · exact .inl h
    · exact .inr ⟨_, B, h, .inl ⟨rfl, rfl⟩⟩
  · rcases h with h | ⟨b, B, h, hb⟩
    · exact .inl h
    · exact .inr ⟨b, B, h, .inr (.inl ⟨rfl, hb⟩)⟩
  · rcases h with h | ⟨b, B, h, hb, hh⟩
    · exact .inl h
    · exact .inr ⟨b, B, h, .inr (.inr ⟨rfl, hb, hh⟩)⟩

theorem comm {E : Env} {h0 j i : Nat} {p q : Oper} {e1 e2 : Eff} (hji : j < i) (hpj : ops[j]? = some p) (hqi : ops[i]? = some q) (hok : okPair ops j p i q = true) (hRS : clsOf ops p = .r → clsOf ops q = .s → noRS ops = false)
    (hs1 : stepD E true ops h0 j p st = some e1) (hs2 : stepD E true ops h0 i q (e1.on p.dst st) = some e2) :
    stepD E true ops h0 i q st = some e2 ∧ stepD E true ops h0 j p (e2.on q.dst st) = some e1 ∧ e2.on q.dst (e1.on p.dst st) = e1.on p.dst (e2.on q.dst st) := by
  simp only [okPair, Bool.and_eq_true] at hok
  obtain ⟨⟨⟨⟨k1, k2⟩, k3⟩, k4⟩, k5⟩ := hok
  obtain ⟨t1, sh1⟩ := stepD_shape hs1
  obtain ⟨t2, sh2⟩ := stepD_shape hs2
  have c1 := shape_cases sh1
  have c2 := shape_cases sh2
  have hle := rank_le ops (Nat.le_of_lt hji)
  have tk1 : ∀ t, e1.tk = some t → tkOp p = some t := fun t ht => by rcases t1 with t1 | t1 <;> rw [t1] at ht <;> first | cases ht | exact ht
  have tk2 : ∀ t, e2.tk = some t → tkOp q = some t := fun t ht => by rcases t2 with t2 | t2 <;> rw [t2] at ht <;> first | cases ht | exact ht
  have d1q : ∀ t, tkOp q = some t → p.dst ≠ some t := fun t ht => awayO_ne k1 (List.mem_append_left _ (tkOp_mem ht))
  have d2p : ∀ t, tkOp p = some t → q.dst ≠ some t := fun t ht => awayO_ne k2 (List.mem_append_left _ (tkOp_mem ht))
  have ne12 : ∀ t, tkOp p = some t → tkOp q ≠ some t := fun t ht => optNe_ne k4 ht
  have hS : Same ops h0 i q st (e1.on p.dst st) := by
    refine ⟨fun t ht => (getT_on (awayO_ne k1 ht)).symm, fun t ht => (getT_on' (d1q t ht) fun hk => ne12 t (tk1 t hk) ht).symm, ?_, fun ha => ?_⟩
    · rw [on_heap]
      rcases c1 with c1 | ⟨b, B, c1, hcl⟩
      · rw [c1]; exact .inr (.inr rfl)
      · rcases hcl with ⟨hcl, _⟩ | ⟨hcl, _⟩ | ⟨hcl, _⟩ <;> rw [hcl] at k5 <;> cases hq : clsOf ops q <;> rw [hq] at k5 <;> simp at k5 ⊢
    · rw [on_heap]
      rcases c1 with c1 | ⟨b, B, c1, hcl⟩
      · rw [c1]; rfl
      · rw [c1]
        refine (gone_set ?_).symm
        rcases hcl with ⟨hcl, rfl⟩ | ⟨hcl, hb⟩ | ⟨hcl, hb, _⟩
        · have := rank_lt hji hpj (cls_makes hcl)
          omega
        · omega
        · omega
  have hi2 : stepD E true ops h0 i q st = some e2 := by rw [stepD_congr hS]; exact hs2
  have hS2 : Same ops h0 j p st (e2.on q.dst st) := by
    refine ⟨fun t ht => (getT_on (awayO_ne k2 ht)).symm, fun t ht => (getT_on' (d2p t ht) fun hk => ne12 t ht (tk2 t hk)).symm, ?_, fun ha => ?_⟩
    · rw [on_heap]
      rcases c2 with c2 | ⟨b, B, c2, hcl⟩
      · rw [c2]; exact .inr (.inr rfl)
      · rw [c2]
        cases hp : clsOf ops p with
        | n => exact .inl rfl
        | a => exact .inr (.inl rfl)
        | r =>
          refine .inr (.inr (take_set_ge _ _ _ _ ?_).symm)
          rcases hcl with ⟨hcl, rfl⟩ | ⟨hcl, hb⟩ | ⟨hcl, hb, hh⟩
          · omega
          · rw [hp, hcl] at k5; simp at k5
          · rw [hp, hcl] at k5
            have k5 := Nat.eq_of_beq_eq_true k5
            rcases hh with hh | hh
            · omega
            · rw [hRS hp hcl] at hh; cases hh
        | t =>
          refine .inr (.inr (take_set_ge _ _ _ _ ?_).symm)
          rcases hcl with ⟨hcl, rfl⟩ | ⟨hcl, hb⟩ | ⟨hcl, hb, hh⟩
          · omega
          · rw [hp, hcl] at k5; simp at k5
          · rw [hp, hcl] at k5; simp at k5
        | s =>
          refine .inr (.inr (take_set_ge _ _ _ _ ?_).symm)
          rcases hcl with ⟨hcl, rfl⟩ | ⟨hcl, hb⟩ | ⟨hcl, hb, hh⟩
          · omega
          · rw [hp, hcl] at k5; simp at k5
          · rw [hp, hcl] at k5; simp at k5
    · rw [on_heap]
      rcases c2 with c2 | ⟨b, B, c2, hcl⟩
      · rw [c2]; rfl
      · rw [c2]
        refine (gone_set ?_).symm
        rcases hcl with ⟨hcl, rfl⟩ | ⟨hcl, hb⟩ | ⟨hcl, hb, hh⟩
        · have := rank_lt hji hpj (cls_makes ha)
          omega
        · rw [ha, hcl] at k5; simp at k5
        · rw [ha, hcl] at k5; simp at k5
  refine ⟨hi2, by rw [← stepD_congr hS2]; exact hs1, ?_⟩
  have ht := tmps_comm e1 e2 p.dst q.dst st (fun t ht => optNe_ne k3 ht) (fun t ht h2 => ne12 t (tk1 t ht) (tk2 t h2)) (fun t ht h2 => d1q t (tk2 t h2) ht) (fun t ht h2 => d2p t (tk1 t h2) ht)
  have hh : (e2.on q.dst (e1.on p.dst st)).heap = (e1.on p.dst (e2.on q.dst st)).heap := by
    simp only [on_heap]
    rcases c1 with c1 | ⟨b, B, c1, hcl1⟩
    · rw [c1]; rfl
    · rcases c2 with c2 | ⟨c, C, c2, hcl2⟩
      · rw [c2]; rfl
      · rw [c1, c2]
        simp only [putBlks]
        refine List.set_comm _ _ ?_
        rcases hcl1 with ⟨hcl1, rfl⟩ | ⟨hcl1, hb⟩ | ⟨hcl1, hb, _⟩ <;> rcases hcl2 with ⟨hcl2, rfl⟩ | ⟨hcl2, hc⟩ | ⟨hcl2, hc, _⟩ <;> rw [hcl1, hcl2] at k5 <;> simp at k5
        · have := rank_lt hji hpj (cls_makes hcl1)
          omega
        · omega
        · omega
  generalize e2.on q.dst (e1.on p.dst st) = s1 at ht hh ⊢
  generalize e1.on p.dst (e2.on q.dst st) = s2 at ht hh ⊢
  obtain ⟨a1, b1⟩ := s1
  obtain ⟨a2, b2⟩ := s2
  simp only at ht hh
  rw [ht, hh]

/-! ### which orders may be drawn -/
inductive Anc (ops : List Oper) : Nat → Nat → Prop
  | edge (j i : Nat) (o : Oper) : ops[i]? = some o → j ∈ bindsL o → Anc ops j i
  | trans (j k i : Nat) (o : Oper) : ops[i]? = some o → k ∈ bindsL o → Anc ops j k → Anc ops j i

theorem maskOf_bit {ms : List Nat} (j : Nat) : ∀ (es : List Nat), (maskOf ms es).testBit j = true → ∃ e ∈ es, e = j ∨ (ms.getD e 0).testBit j = true
  | [], h => by simp [maskOf] at h
  | e :: es, h => by
    unfold maskOf at h
    simp only [Nat.testBit_or, Bool.or_eq_true] at h
    rcases h with (h | h) | h
    · refine ⟨e, by simp, .inl ?_⟩
      rw [Nat.one_shiftLeft, Nat.testBit_two_pow] at h
      simpa using h
    · exact ⟨e, by simp, .inr h⟩
    · obtain ⟨e', he', hh⟩ := maskOf_bit j es h
      exact ⟨e', by simp [he'], hh⟩

theorem masks_spec : ∀ (rest : List Oper) (ms : List Nat), (∀ j : Nat, rest[j]? = ops[ms.length + j]?) → (∀ (i m j : Nat), ms[i]? = some m → m.testBit j = true → Anc ops j i) →
    (masks ops rest ms).length = ms.length + rest.length ∧ ∀ (i m j : Nat), (masks ops rest ms)[i]? = some m → m.testBit j = true → Anc ops j i
  | [], ms, _, h => ⟨rfl, h⟩
  | o :: rest, ms, hr, h => by
    have ho : ops[ms.length]? = some o := by simpa using (hr 0).symm
    have h2 := masks_spec rest (ms ++ [maskOf ms (bindsL o)]) (fun j => by
      have := hr (j + 1)
      simpa [Nat.add_assoc, Nat.add_comm 1 j] using this) (fun i m j hm hb => by
      rcases Nat.lt_or_ge i ms.length with hlt | hge
      · rw [List.getElem?_append_left hlt] at hm
        exact h i m j hm hb
      · rw [List.getElem?_append_right hge] at hm
        have hi0 : i - ms.length = 0 := by
          cases hx : i - ms.length with
          | zero => rfl
          | succ n => rw [hx] at hm; simp at hm
        rw [hi0] at hm
        cases hm
        have hi : i = ms.length := by omega
        subst hi
        obtain ⟨e, he, hh⟩ := maskOf_bit j _ hb
        rcases hh with rfl | hh
        · exact .edge _ _ o ho he
        · refine .trans _ e _ o ho he ?_
          cases hx : ms[e]? with
          | none => rw [List.getD, hx] at hh; simp at hh
          | some m => rw [List.getD, hx] at hh; exact h e m j hx hh)
    refine ⟨?_, h2.2⟩
    rw [masks, h2.1]
    simp; omega

theorem pairsOk_spec {f : Nat → Oper → Nat → Oper → Bool} {m i : Nat} {q : Oper} : ∀ (rest : List Oper) (k : Nat), pairsOk ops f m i q k rest = true → ∀ (j : Nat) (p : Oper), rest[j]? = some p → i ≤ k + j ∨ m.testBit (k + j) = true ∨ f (k + j) p i q = true
  | [], k, _, j, p, hj => by simp at hj
  | x :: rest, k, h, j, p, hj => by
    unfold pairsOk at h
    simp only [Bool.and_eq_true, Bool.or_eq_true] at h
    cases j with
    | zero =>
      cases hj
      rcases h.1 with (h | h) | h
      · exact .inl (Nat.le_of_ble_eq_true h)
      · exact .inr (.inl h)
      · exact .inr (.inr h)
    | succ j =>
      have := pairsOk_spec rest (k + 1) h.2 j p (by simpa using hj)
      simpa [Nat.add_assoc, Nat.add_comm 1 j] using this

theorem rowsOk_spec {f : Nat → Oper → Nat → Oper → Bool} : ∀ (rest : List Oper) (ms : List Nat) (k : Nat), rowsOk ops f k rest ms = true → ms.length = rest.length → ∀ (i : Nat) (q : Oper), rest[i]? = some q → ∃ m, ms[i]? = some m ∧ pairsOk ops f m (k + i) q 0 ops = true
  | [], ms, k, _, _, i, q, hi => by simp at hi
  | x :: rest, [], k, _, hl, i, q, hi => by simp at hl
  | x :: rest, m :: ms, k, h, hl, i, q, hi => by
    unfold rowsOk at h
    simp only [Bool.and_eq_true] at h
    cases i with
    | zero => cases hi; exact ⟨m, rfl, h.1⟩
    | succ i =>
      obtain ⟨m', h1, h2⟩ := rowsOk_spec rest ms (k + 1) h.2 (by simpa using hl) i q (by simpa using hi)
      exact ⟨m', by simpa using h1, by simpa [Nat.add_assoc, Nat.add_comm 1 i] using h2⟩

theorem pair_of {f : Nat → Oper → Nat → Oper → Bool} (h : rowsOk ops f 0 ops (masks ops ops []) = true) {j i : Nat} {p q : Oper} (hji : j < i) (hp : ops[j]? = some p) (hq : ops[i]? = some q) (hna : ¬ Anc ops j i) : f j p i q = true := by
  obtain ⟨hl, hs⟩ := masks_spec (ops := ops) ops [] (fun j => by simp) (fun i m j hm => by simp at hm)
  obtain ⟨m, hm, hpo⟩ := rowsOk_spec ops _ 0 h (by simpa using hl) i q hq
  rcases pairsOk_spec ops 0 hpo j p hp with h1 | h1 | h1
  · omega
  · exact absurd (hs i m j hm (by simpa using h1)) hna
  · simpa using h1

theorem back_of : ∀ (rest : List Oper) (k : Nat), backOk k rest = true → ∀ (i : Nat) (o : Oper), rest[i]? = some o → ∀ e ∈ bindsL o, e < k + i
  | [], k, _, i, o, hi => by simp at hi
  | x :: rest, k, h, i, o, hi => by
    unfold backOk at h
    simp only [Bool.and_eq_true, List.all_eq_true] at h
    cases i with
    | zero => cases hi; exact fun e he => Nat.le_of_ble_eq_true (h.1 e he)
    | succ i =>
      have := back_of rest (k + 1) h.2 i o (by simpa using hi)
      exact fun e he => by have := this e he; omega
end

section
variable {X0 : Ctx} {E : Env} {ops : Array Oper}

theorem mem_binds {o : Oper} {e : Edge} (he : e ∈ o.after) (hb : Region.binds .any e = true) : e.on ∈ bindsL o := by
  refine List.mem_map.2 ⟨e, List.mem_filter.2 ⟨by simpa using he, ?_⟩, rfl⟩
  unfold Region.binds at hb
  split at hb
  · cases hb
  · cases hb
  · split <;> simp_all

theorem binds_mem {o : Oper} {n : Nat} (h : n ∈ bindsL o) : ∃ e ∈ o.after, Region.binds .any e = true ∧ e.on = n := by
  obtain ⟨e, he, rfl⟩ := List.mem_map.1 h
  obtain ⟨h1, h2⟩ := List.mem_filter.1 he
  refine ⟨e, by simpa using h1, ?_, rfl⟩
  unfold Region.binds
  split <;> simp_all

/-- What has been done is closed: so is what goes ahead of it. -/
def Shut (ops : Array Oper) (listed : Array Bool) : Prop := ∀ (i : Nat) (o : Oper), ops[i]? = some o → listed.getD i true = true → ∀ e ∈ bindsL o, listed.getD e true = true

def rem (n : Nat) (listed : Array Bool) : List Nat := (List.range n).filter fun i => !listed.getD i true

theorem anc_listed {listed : Array Bool} (hS : Shut ops listed) {j i : Nat} (h : Anc ops.toList j i) : (∀ o, ops[i]? = some o → ∀ e ∈ bindsL o, listed.getD e true = true) → (∀ i : Nat, listed.getD i true = true → i < ops.size ∨ True) → listed.getD j true = true := by
  induction h with
  | edge i o ho hj => exact fun h _ => h o (by rw [← Array.getElem?_toList]; exact ho) j hj
  | trans k i o ho hk hjk ih =>
    intro h ht
    have hlk := h o (by rw [← Array.getElem?_toList]; exact ho) k hk
    exact ih (fun o' ho' => hS k o' ho' hlk) ht

theorem runD_swap {h0 : Nat} (hok : drawOk ops.toList = true) {i : Nat} {q : Oper} (hq : ops.toList[i]? = some q) (B : List Nat) : ∀ (A : List Nat) (st st' : St), (∀ j ∈ A, j < i ∧ ¬ Anc ops.toList j i) →
    runD E true ops.toList h0 (A ++ i :: B) st = some st' → ∃ e, stepD E true ops.toList h0 i q st = some e ∧ runD E true ops.toList h0 (A ++ B) (e.on q.dst st) = some st'
  | [], st, st', _, h => by
    simp only [List.nil_append] at h ⊢
    unfold runD at h
    rw [hq] at h
    simp only [] at h
    cases hs : stepD E true ops.toList h0 i q st with
    | none => rw [hs] at h; cases h
    | some e => rw [hs] at h; exact ⟨e, rfl, h⟩
  | j :: A, st, st', hA, h => by
    simp only [List.cons_append] at h ⊢
    unfold runD at h
    cases hp : ops.toList[j]? with
    | none => rw [hp] at h; cases h
    | some p =>
      rw [hp] at h
      simp only [] at h
      cases hs : stepD E true ops.toList h0 j p st with
      | none => rw [hs] at h; cases h
      | some e1 =>
        rw [hs] at h
        simp only [Option.bind_some] at h
        obtain ⟨e2, he2, hr⟩ := runD_swap hok hq B A _ st' (fun k hk => hA k (by simp [hk])) h
        obtain ⟨hji, hna⟩ := hA j (by simp)
        have hd := hok
        simp only [drawOk, Bool.and_eq_true] at hd
        have hpair := pair_of hd.2 hji hp hq hna
        obtain ⟨r1, r2, r3⟩ := comm hji hp hq hpair (fun hr hs' => by
          cases hn : noRS ops.toList with
          | false => rfl
          | true =>
            have := pair_of hn hji hp hq hna
            simp [hr, hs'] at this) hs he2
        refine ⟨e2, r1, ?_⟩
        unfold runD
        rw [hp]
        simp only []
        rw [r2]
        simp only [Option.bind_some]
        rw [← r3]
        exact hr

theorem rem_split {n : Nat} {listed : Array Bool} {i : Nat} (hi : i ∈ rem n listed) (hsz : listed.size = n) : ∃ A B, rem n listed = A ++ i :: B ∧ (∀ j ∈ A, j < i ∧ j ∈ rem n listed) ∧ rem n (listed.setIfInBounds i true) = A ++ B := by
  have hsorted : (rem n listed).Pairwise (· < ·) := List.Pairwise.filter _ List.pairwise_lt_range
  obtain ⟨A, B, hAB⟩ := List.append_of_mem hi
  have hs := hAB ▸ hsorted
  rw [List.pairwise_append] at hs
  obtain ⟨s1, s2, s3⟩ := hs
  rw [List.pairwise_cons] at s2
  have hA : ∀ j ∈ A, j < i := fun j hj => s3 j hj i (by simp)
  refine ⟨A, B, hAB, fun j hj => ⟨hA j hj, by rw [hAB]; simp [hj]⟩, ?_⟩
  have : rem n (listed.setIfInBounds i true) = (rem n listed).filter fun j => !Nat.beq j i := by
    unfold rem
    rw [List.filter_filter]
    refine List.filter_congr fun j hj => ?_
    have hjn : j < n := List.mem_range.1 hj
    by_cases hij : i = j
    · subst hij
      have : (listed.setIfInBounds i true).getD i true = true := by simp [hsz, hjn]
      rw [this]
      simp [Nat.beq_refl]
    · rw [getD_set_ne true hij]
      have : Nat.beq j i = false := by
        cases hb : Nat.beq j i with
        | false => rfl
        | true => exact absurd (Nat.eq_of_beq_eq_true hb).symm hij
      simp [this]
  rw [this, hAB, List.filter_append, List.filter_cons]
  simp only [Nat.beq_refl, Bool.not_true, Bool.false_eq_true, if_false]
  have f1 : A.filter (fun j => !Nat.beq j i) = A := List.filter_eq_self.2 fun j hj => by
    cases hb : Nat.beq j i with
    | false => rfl
    | true => have := Nat.eq_of_beq_eq_true hb; have := hA j hj; omega
  have f2 : B.filter (fun j => !Nat.beq j i) = B := List.filter_eq_self.2 fun j hj => by
    cases hb : Nat.beq j i with
    | false => rfl
    | true => have := Nat.eq_of_beq_eq_true hb; have := s2.1 j hj; omega
  rw [f1, f2]

theorem any_sound (hC : SoundC E.P E.call) (hok : drawOk ops.toList = true) {h0 : Nat} {st' : St} {Q : Exit → Act → World → Prop} (hQ : ∀ X' a' w', Inv X0 X' st' a' w' → Q .normal a' w') :
    ∀ (n : Nat) (listed : Array Bool) (st : St) (X : Ctx) (a : Act) (w : World), (rem ops.size listed).length = n → listed.size = ops.size → Shut ops listed → Inv X0 X st a w → runD E true ops.toList h0 (rem ops.size listed) st = some st' →
      wpAny E.P .any ops Q n listed a w := by
  intro n
  have hready : ∀ {listed : Array Bool} {i : Nat}, i ∈ Region.ready .any ops listed → i ∈ rem ops.size listed ∧ (∀ o, ops[i]? = some o → ∀ e ∈ bindsL o, listed.getD e false = true) := by
    intro listed i hi
    obtain ⟨h1, o, ho, hall⟩ := mem_ready.1 hi
    refine ⟨List.mem_filter.2 ⟨List.mem_range.2 (Array.getElem?_eq_some_iff.1 ho).1, by rw [h1]; rfl⟩, fun o' ho' e he => ?_⟩
    rw [ho] at ho'
    cases ho'
    obtain ⟨ed, hed, hb, rfl⟩ := binds_mem he
    exact hall ed hed hb
  induction n with
  | zero =>
    intro listed st X a w hn hsz hS hI hr
    have hnil : rem ops.size listed = [] := List.length_eq_zero_iff.1 hn
    rw [hnil] at hr
    cases hr
    refine ⟨?_, hQ X a w hI⟩
    cases hx : Region.ready .any ops listed with
    | nil => rfl
    | cons i l =>
      have := (hready (listed := listed) (i := i) (by rw [hx]; simp)).1
      rw [hnil] at this
      cases this
  | succ n ih =>
    intro listed st X a w hn hsz hS hI hr
    have ft : ∀ e, listed.getD e false = true → listed.getD e true = true := fun e he => by
      rcases Nat.lt_or_ge e listed.size with h' | h'
      · simpa [h'] using he
      · simp [Array.getElem?_eq_none h'] at he
    refine ⟨fun hnil => ?_, fun i hi => ?_⟩
    · -- the first that is left is ready
      exfalso
      cases hL : rem ops.size listed with
      | nil => rw [hL] at hn; cases hn
      | cons j L =>
        have hj : j ∈ rem ops.size listed := by rw [hL]; simp
        obtain ⟨hj1, hj2⟩ := List.mem_filter.1 hj
        have hjn := List.mem_range.1 hj1
        have hsorted : (rem ops.size listed).Pairwise (· < ·) := List.Pairwise.filter _ List.pairwise_lt_range
        rw [hL, List.pairwise_cons] at hsorted
        have hjr : j ∈ Region.ready .any ops listed := by
          refine mem_ready.2 ⟨by simpa using hj2, ops[j], Array.getElem?_eq_getElem hjn, fun e he hb => ?_⟩
          have hd := hok
          simp only [drawOk, Bool.and_eq_true] at hd
          have hlt := back_of _ 0 hd.1 j ops[j] (by rw [Array.getElem?_toList]; exact Array.getElem?_eq_getElem hjn) e.on (mem_binds he hb)
          have hlt' : e.on < j := by omega
          cases hx : listed.getD e.on false with
          | true => rfl
          | false =>
            exfalso
            have hen : e.on < ops.size := by omega
            have hem : e.on ∈ rem ops.size listed := by
              refine List.mem_filter.2 ⟨List.mem_range.2 hen, ?_⟩
              have hes : e.on < listed.size := by omega
              simp [hes] at hx
              simp [hes, hx]
            rw [hL] at hem
            rcases List.mem_cons.1 hem with h | h
            · omega
            · have := hsorted.1 _ h
              omega
        rw [hnil] at hjr
        cases hjr
    · obtain ⟨him, hpre⟩ := hready hi
      obtain ⟨A, B, hAB, hA, hrem⟩ := rem_split him hsz
      have hin : i < ops.size := List.mem_range.1 (List.mem_filter.1 him).1
      have hoi : ops[i]? = some ops[i] := Array.getElem?_eq_getElem hin
      rw [hAB] at hr
      obtain ⟨e, he, hr'⟩ := runD_swap hok (by rw [Array.getElem?_toList]; exact hoi) B A st st' (fun j hj => ⟨(hA j hj).1, fun hanc => by
        have h1 := anc_listed hS hanc (fun o ho e he => ft e (hpre o ho e he)) (fun _ _ => .inr trivial)
        have h2 := (List.mem_filter.1 (hA j hj).2).2
        simp [h1] at h2⟩) hr
      unfold wpOp
      rw [hoi]
      simp only []
      refine stepD_sound hC hI he fun X' a' w' hI' => ?_
      refine ih (listed.setIfInBounds i true) _ X' a' w' ?_ (by simpa using hsz) ?_ hI' (by rw [hrem]; exact hr')
      · rw [hrem]
        rw [hAB] at hn
        simp at hn ⊢
        omega
      · intro k o hk hl e he
        have up : ∀ m, listed.getD m true = true → (listed.setIfInBounds i true).getD m true = true := fun m hm => by
          by_cases hmi : i = m
          · subst hmi
            simp [hsz, hin]
          · rw [getD_set_ne true hmi]; exact hm
        by_cases hki : i = k
        · subst hki
          exact up e (ft e (hpre o hk e he))
        · rw [getD_set_ne true hki] at hl
          exact up e (hS k o hk hl e he)

theorem region_sound (hC : SoundC E.P E.call) (hm : E.P.follows .mixedOrders = true) {X : Ctx} {st : St} {a : Act} {w : World} (h : Inv X0 X st a w) {id : Nat} {draw : Bool} {R : Type} {k : St → Option R} {r : R}
    (hk : need (!draw || drawOk ops.toList) (opsK E draw ops.toList st.heap.length 0 ops.toList (grow ops.toList st) k) = some r) :
    ∃ st', k st' = some r ∧ ∀ Q : Exit → Act → World → Prop, (∀ X' a' w', Inv X0 X' st' a' w' → Q .normal a' w') → (Code.region id ops draw).wp E.P Q a w := by
  obtain ⟨hd, hk⟩ := need_some hk
  rw [opsK_eq _ _ _ _ _ ops.toList 0 _ (fun j => by simp)] at hk
  cases hr : runD E draw ops.toList st.heap.length (List.range' 0 ops.toList.length) (grow ops.toList st) with
  | none => rw [hr] at hk; cases hk
  | some st' =>
    rw [hr] at hk
    refine ⟨st', hk, fun Q hQ => ?_⟩
    have hI := grow_sound h ops.toList
    rw [Array.length_toList, ← List.range_eq_range'] at hr
    cases draw with
    | false => exact wp_region (runD_wp hC hQ _ _ _ _ _ hI hr)
    | true =>
      have hok : drawOk ops.toList = true := by simpa using hd
      have hrem : rem ops.size (Array.replicate ops.size false) = List.range ops.size := by
        unfold rem
        refine List.filter_eq_self.2 fun i hi => ?_
        have := List.mem_range.1 hi
        simp [this]
      have hI' := hI.drawn (W := { w with drawn := w.drawn + 1 }) rfl rfl rfl rfl
      refine wp_region_any hm ?_
      have := any_sound hC hok hQ ops.size (Array.replicate ops.size false) _ _ a _ (by rw [hrem]; simp) (by simp) (fun i o ho hl => by
        have hi := (Array.getElem?_eq_some_iff.1 ho).1
        simp [hi] at hl) hI' (by rw [hrem]; exact hr)
      exact this
end
end Go.Am
