/- The abstract machine is sound: regions, in the text's order or in a drawn one. -/
import Derived.Test.YtigopdlofamhlaaDoorBmDraw
namespace Go.Bm
set_option autoImplicit false
set_option linter.unusedVariables false
set_option linter.unusedSimpArgs false

section
variable {P : Program} {X0 X : Ctx} {st : St} {a : Act} {w : World} {ok : Ob → Prop} {L : Nat → Bool}

def CallsOk (P : Program) (ok : Ob → Prop) : Prop := ∀ f args H r H', ok (.c f args H r H') → Does P f args H (r, H')

theorem moreOb_some {R : Type} {l : List Ob} {x : Option (List Ob × R)} {l2 : List Ob} {r : R} (h : moreOb l x = some (l2, r)) : ∃ l', l2 = l ++ l' ∧ x = some (l', r) := by
  unfold moreOb at h
  split at h
  · cases h; exact ⟨_, rfl, rfl⟩
  · cases h

theorem sameObs_mem {H : List Blk} {hb : List (Nat × Blk)} {b : Nat} : ∀ {bs : List Nat}, b ∈ bs → Ob.e { val := dead, hb := [(b, lookB b hb)] } { val := dead, hb := [(b, getB H b)] } ∈ sameObs H hb bs
  | c :: bs, h => by
    rcases List.mem_cons.1 h with rfl | h
    · exact List.mem_cons_self
    · exact List.mem_cons_of_mem _ (sameObs_mem h)
theorem hasBlk_iff {b : Nat} : ∀ {l : List Nat}, hasBlk b l = true ↔ b ∈ l
  | [] => by simp [hasBlk]
  | x :: l => by
    simp only [hasBlk, Bool.or_eq_true, List.mem_cons, hasBlk_iff (l := l)]
    constructor
    · rintro (h | h)
      · exact .inl (Nat.eq_of_beq_eq_true h).symm
      · exact .inr h
    · rintro (rfl | h)
      · exact .inl (Nat.beq_refl _)
      · exact .inr h
theorem set_getB (H : List Blk) (b : Nat) : H.set b (getB H b) = H := by
  rcases Nat.lt_or_ge b H.length with h | h
  · unfold getB
    rw [List.getD_eq_getElem?_getD, List.getElem?_eq_getElem h]
    exact List.set_getElem_self _
  · exact List.set_eq_of_length_le h
theorem drop_put {bs : List Nat} : ∀ (hb : List (Nat × Blk)) (H : List Blk), noDup (hb.map Prod.fst) = true → (∀ b ∈ bs, b ∈ hb.map Prod.fst → lookB b hb = getB H b) → putBlks H hb = putBlks H (dropB bs hb)
  | [], H, hn, h => rfl
  | (c, x) :: l, H, hn, h => by
    simp only [List.map_cons, noDup, Bool.and_eq_true, Bool.not_eq_true'] at hn
    have hc : c ∉ l.map Prod.fst := fun hm => by rw [List.elem_eq_true_of_mem hm] at hn; cases hn.1
    have tail : ∀ b ∈ bs, b ∈ l.map Prod.fst → b ≠ c ∧ lookB b l = getB H b := fun b hb hbl => by
      have hbc : b ≠ c := fun e => hc (e ▸ hbl)
      have := h b hb (List.mem_cons_of_mem _ hbl)
      simp only [lookB] at this
      rw [show Nat.beq c b = false from by cases hq : Nat.beq c b with | false => rfl | true => exact absurd (Nat.eq_of_beq_eq_true hq).symm hbc] at this
      exact ⟨hbc, this⟩
    simp only [putBlks, dropB]
    cases hcb : hasBlk c bs with
    | true =>
      have := h c (hasBlk_iff.1 hcb) (by simp)
      simp only [lookB, Nat.beq_refl, cond_true] at this
      simp only [cond_true]
      rw [this, set_getB]
      exact drop_put l H hn.2 fun b hb hbl => (tail b hb hbl).2
    | false =>
      simp only [cond_false, putBlks]
      refine drop_put l _ hn.2 fun b hb hbl => ?_
      rw [(tail b hb hbl).2]
      unfold getB
      rw [List.getD_eq_getElem?_getD, List.getD_eq_getElem?_getD, List.getElem?_set_ne fun e => (tail b hb hbl).1 e.symm]
/-- An operation's step. -/
theorem step_sound (hok : OkOb ok) (hC : CallsOk P ok) (h : Inv X0 X st a w) {ops : Array Oper} {ix id : Nat} {o : Oper} {x : Rec} (hs : Evals P L ops.toList ok ix id o st x)
    {K : Act → World → Prop} {Q : Exit → Act → World → Prop} (hK : ∀ X' a' w', Inv X0 X' (x.e.on o.dst st) a' w' → K a' w') :
    if Region.wanted o (yielded ops a.tmps) then o.wp P a w K Q ∨ (o.asks P a w ∧ LetsOut Q) else K (a.put o.dst undef) w := by
  rcases hs with ⟨hw, s, l, s', hr, hl⟩ | ⟨hw, he⟩
  · rw [wantB_sound h hw, if_pos rfl]
    unfold runE at hr
    cases hq : (opE P id (L ix) o (evT st.tmps)).run (getB st.heap) s with
    | none => rw [hq] at hr; cases hr
    | some q =>
      obtain ⟨l', r', e', s''⟩ := q
      rw [hq] at hr
      simp only [] at hr
      have key : ∀ l2, l2 = l' → (∀ y ∈ l2, ok y) → EDoes P X0 st a w o e' := fun l2 e hl2 => by
        subst e
        exact opE_sound hC h (run_gives hok _ _ _ _ _ _ hq hl2)
      split at hr
      · cases hr
        exact .inl (key _ rfl hl K Q hK)
      · split at hr
        · simp only [Option.some.injEq, Prod.mk.injEq] at hr
          obtain ⟨h1, h2, h3, h4⟩ := hr
          subst h1
          have he : e' = x.e := by rw [← h3]; exact hok.e _ _ (hl _ (by simp))
          subst he
          exact .inl (key _ rfl (fun y hy => hl y (List.mem_append_left _ hy)) K Q hK)
        · cases hr
          exact .inl (key _ rfl hl K Q hK)
        · rename_i bs s2
          obtain ⟨h1, h2, h3, h4, h5⟩ := unE_some hr
          have hsm : ∀ b ∈ bs, lookB b e'.hb = getB st.heap b := fun b hb => by
            have := hok.e _ _ (hl _ (h1 ▸ List.mem_append_right _ (sameObs_mem hb)))
            have := congrArg Eff.hb this
            simpa using this
          have hon : e'.on o.dst st = x.e.on o.dst st := by
            rw [h3]
            unfold Eff.on
            simp only [h4]
            rw [drop_put e'.hb st.heap h5 fun b hb _ => hsm b hb]
          exact .inl (key l' rfl (fun y hy => hl y (h1 ▸ List.mem_append_left _ hy)) K Q fun X' a' w' hI => hK X' a' w' (hon ▸ hI))
        · cases hr
  · rw [wantB_sound h hw]
    simp only [Bool.false_eq_true, if_false]
    refine hK X _ _ ?_
    rw [he]
    exact h.put o.dst fun _ _ => .tup _ [] [] rfl fun j v V hv => by simp at hv

/-! ### blocks that are gone at the heap's end -/
theorem HeapOk.more {H : List Blk} (h : HeapOk X H) (k : Nat) : HeapOk X (H ++ List.replicate k .gone) := by
  refine ⟨fun b B hB => ?_, fun b ρ L hL => ?_, h.inj, h.free⟩
  · rcases Nat.lt_or_ge b H.length with hlt | hge
    · rw [List.getElem?_append_left hlt] at hB
      exact h.blk b B hB
    · rw [List.getElem?_append_right hge] at hB
      have : B = .gone := List.eq_of_mem_replicate (List.mem_of_getElem? hB)
      subst this
      intro ρ
      show X.loc b ρ = none
      cases hx : X.loc b ρ with
      | none => rfl
      | some L => exact absurd (h.lt b ρ L hx) (by omega)
  · have := h.lt b ρ L hL
    rw [List.length_append]
    omega
theorem HeapOk.less {H : List Blk} {k : Nat} (h : HeapOk X (H ++ List.replicate k .gone)) : HeapOk X H := by
  refine ⟨fun b B hB => h.blk b B ?_, fun b ρ L hL => ?_, h.inj, h.free⟩
  · rw [List.getElem?_append_left (List.getElem?_eq_some_iff.1 hB).1]; exact hB
  · rcases Nat.lt_or_ge b H.length with hlt | hge
    · exact hlt
    · obtain ⟨B, x, hB, hx, _⟩ := h.of_loc hL
      rw [List.getElem?_append_right hge] at hB
      have : B = .gone := List.eq_of_mem_replicate (List.mem_of_getElem? hB)
      subst this
      cases hx
theorem Base.more {H : List Blk} (h : Base X0 X H) (k : Nat) : Base X0 X (H ++ List.replicate k .gone) := fun b B hB ρ ht => by
  rcases Nat.lt_or_ge b H.length with hlt | hge
  · rw [List.getElem?_append_left hlt] at hB
    exact h b B hB ρ ht
  · rw [List.getElem?_append_right hge] at hB
    have : B = .gone := List.eq_of_mem_replicate (List.mem_of_getElem? hB)
    subst this
    cases ht
theorem Base.less {H : List Blk} {k : Nat} (h : Base X0 X (H ++ List.replicate k .gone)) : Base X0 X H := fun b B hB ρ ht => h b B (by rw [List.getElem?_append_left (List.getElem?_eq_some_iff.1 hB).1]; exact hB) ρ ht
theorem Inv.grow (h : Inv X0 X st a w) (n : Nat) : Inv X0 X (grow n st) a w := ⟨h.hw, h.hd, h.tsz, h.tmps, h.heap.more n, h.fresh, h.fr, h.base.more n, h.glo⟩
theorem trimR_eq : ∀ l : List Blk, ∃ k, l = trimR l ++ List.replicate k .gone
  | [] => ⟨0, rfl⟩
  | B :: Bs => by
    obtain ⟨k, hk⟩ := trimR_eq Bs
    unfold trimR
    cases ht : trimR Bs with
    | nil =>
      rw [ht] at hk
      simp only [List.nil_append] at hk
      cases B with
      | gone => exact ⟨k + 1, by simp [hk, List.replicate_succ]⟩
      | _ => exact ⟨k, by simp [hk]⟩
    | cons C Cs =>
      rw [ht] at hk
      exact ⟨k, by simp [hk]⟩
theorem trim_eq (m : Nat) (H : List Blk) : ∃ k, H = trim m H ++ List.replicate k .gone := by
  obtain ⟨k, hk⟩ := trimR_eq (H.drop m)
  refine ⟨k, ?_⟩
  unfold trim
  rw [List.append_assoc, ← hk, List.take_append_drop]
theorem Inv.trim (h : Inv X0 X st a w) (m : Nat) : Inv X0 X { st with heap := trim m st.heap } a w := by
  obtain ⟨k, hk⟩ := trim_eq m st.heap
  have h1 := h.heap
  have h2 := h.base
  rw [hk] at h1 h2
  exact ⟨h.hw, h.hd, h.tsz, h.tmps, h1.less, h.fresh, h.fr, h2.less, h.glo⟩

/-! ### runs -/
def Chain (P : Program) (L : Nat → Bool) (ops : List Oper) (ok : Ob → Prop) (rf : Nat → Rec) : List Nat → St → St → Prop
  | [], st, st' => st = st'
  | i :: l, st, st' => ∃ o id, ops[i]? = some o ∧ At P L ops ok i id o st (rf i) ∧ Old o st (rf i) ∧ Chain P L ops ok rf l ((rf i).e.on o.dst st) st'

theorem ops_ok (hok : OkOb ok) {ops : List Oper} {R : Type} : ∀ (rest : List Oper) (ix id : Nat) (st : St) (k : List Rec → St → Ans R) (s : List Say) (l : List Ob) (r : R),
    opsE P L ops ix id rest st k s = some (l, r) → (∀ o ∈ l, ok o) → (∀ j : Nat, rest[j]? = ops[ix + j]?) →
    ∃ rs st' s' l', k rs st' s' = some (l', r) ∧ (∀ o ∈ l', ok o) ∧ rs.length = rest.length ∧ ∀ rf : Nat → Rec, (∀ (j : Nat) (x : Rec), rs[j]? = some x → rf (ix + j) = x) → Chain P L ops ok rf (List.range' ix rest.length) st st'
  | [], ix, id, st, k, s, l, r, h, hl, _ => ⟨[], st, s, l, h, hl, rfl, fun rf _ => rfl⟩
  | o :: rest, ix, id, st, k, s, l, r, h, hl, hops => by
    unfold opsE at h
    obtain ⟨b, s1, l1, hw, h1, hl1⟩ := want_ok hok h hl
    have ho : ops[ix]? = some o := (hops 0).symm
    have hrest : ∀ j : Nat, rest[j]? = ops[ix + 1 + j]? := fun j => by
      have := hops (j + 1)
      simpa [Nat.add_assoc, Nat.add_comm 1 j] using this
    have finish : ∀ (e : Eff) (rd : List Nat) (s2 : List Say) (l2 : List Ob), Evals P L ops ok ix id o st (recOf o.dst st e rd) → opsE P L ops (ix + 1) (id + makes P o) rest (e.on o.dst st) (fun rs => k (recOf o.dst st e rd :: rs)) s2 = some (l2, r) → (∀ o ∈ l2, ok o) →
        ∃ rs st' s' l', k rs st' s' = some (l', r) ∧ (∀ o ∈ l', ok o) ∧ rs.length = (o :: rest).length ∧ ∀ rf : Nat → Rec, (∀ (j : Nat) (x : Rec), rs[j]? = some x → rf (ix + j) = x) → Chain P L ops ok rf (List.range' ix (o :: rest).length) st st' := by
      intro e rd s2 l2 hev h2 hl2
      obtain ⟨rs, st', s', l', g1, g2, g3, g4⟩ := ops_ok hok rest (ix + 1) _ _ _ s2 l2 r h2 hl2 hrest
      refine ⟨_, st', s', l', g1, g2, by simp [g3], fun rf hrf => ?_⟩
      have hx := hrf 0 _ rfl
      have hx : rf ix = recOf o.dst st e rd := hx
      obtain ⟨a1, a2, a3⟩ := recOf_at hev
      refine ⟨o, id, ho, hx ▸ a1, hx ▸ a2, ?_⟩
      rw [hx, a3]
      exact g4 rf fun j x hj => by
        have := hrf (j + 1) x (by simpa using hj)
        simpa [Nat.add_assoc, Nat.add_comm 1 j] using this
    cases b with
    | true =>
      simp only [] at h1
      cases hr : runE P id (L ix) o st s1 with
      | none => rw [hr] at h1; cases h1
      | some q =>
        obtain ⟨l2, rd, e, s2⟩ := q
        rw [hr] at h1
        simp only [] at h1
        obtain ⟨l3, rfl, h3⟩ := moreOb_some h1
        have he : (recOf o.dst st e rd).e = e := by unfold recOf; split <;> rfl
        have hrd : (recOf o.dst st e rd).rd = rd := by unfold recOf; split <;> rfl
        exact finish e rd s2 l3 (.inl ⟨hw, s1, l2, s2, by rw [he, hrd]; exact hr, fun y hy => hl1 y (List.mem_append_left _ hy)⟩) h3 fun y hy => hl1 y (List.mem_append_right _ hy)
    | false =>
      simp only [] at h1
      exact finish { val := undefV } [] s1 l1 (.inr ⟨hw, rfl⟩) h1 hl1

theorem chain_wp (hok : OkOb ok) (hC : CallsOk P ok) {ops : Array Oper} {rf : Nat → Rec} {st' : St} {Q : Exit → Act → World → Prop} (hQ : ∀ X' a' w', Inv X0 X' st' a' w' → Q .normal a' w') :
    ∀ (l : List Nat) (st : St) (X : Ctx) (a : Act) (w : World), Inv X0 X st a w → Chain P L ops.toList ok rf l st st' → wpOps P ops Q l a w
  | [], st, X, a, w, h, hr => by
    cases hr
    exact hQ X a w h
  | i :: l, st, X, a, w, h, hr => by
    obtain ⟨o, id, ho, hat, _, hr⟩ := hr
    rw [Array.getElem?_toList] at ho
    unfold wpOps
    rw [ho]
    exact step_sound hok hC h hat.ev fun X' a' w' h' => chain_wp hok hC hQ l _ X' a' w' h' hr
end

section
variable {ops : List Oper}
/-! ### which orders may be drawn -/
inductive Anc (ops : List Oper) : Nat → Nat → Prop
  | edge (j i : Nat) (o : Oper) : ops[i]? = some o → j ∈ bindsL o → Anc ops j i
  | trans (j k i : Nat) (o : Oper) : ops[i]? = some o → k ∈ bindsL o → Anc ops j k → Anc ops j i

theorem maskOf_bit {ms : List Nat} (j : Nat) : ∀ (es : List Nat), (maskOf ms es).testBit j = true → ∃ e ∈ es, e = j ∨ (ms.getD e 0).testBit j = true
  | [], h => by simp [maskOf] at h
  | e :: es, h => by
    unfold maskOf at h
    simp only [Nat.testBit_or, Bool.or_eq_true] at h
    rcases h with (h | h) | h
    · refine ⟨e, by simp, .inl ?_⟩
      rw [Nat.one_shiftLeft, Nat.testBit_two_pow] at h
      simpa using h
    · exact ⟨e, by simp, .inr h⟩
    · obtain ⟨e', he', hh⟩ := maskOf_bit j es h
      exact ⟨e', by simp [he'], hh⟩

theorem masks_spec : ∀ (rest : List Oper) (ms : List Nat), (∀ j : Nat, rest[j]? = ops[ms.length + j]?) → (∀ (i m j : Nat), ms[i]? = some m → m.testBit j = true → Anc ops j i) →
    (masks rest ms).length = ms.length + rest.length ∧ ∀ (i m j : Nat), (masks rest ms)[i]? = some m → m.testBit j = true → Anc ops j i
  | [], ms, _, h => ⟨rfl, h⟩
  | o :: rest, ms, hr, h => by
    have ho : ops[ms.length]? = some o := by simpa using (hr 0).symm
    have h2 := masks_spec rest (ms ++ [maskOf ms (bindsL o)]) (fun j => by
      have := hr (j + 1)
      simpa [Nat.add_assoc, Nat.add_comm 1 j] using this) (fun i m j hm hb => by
      rcases Nat.lt_or_ge i ms.length with hlt | hge
      · rw [List.getElem?_append_left hlt] at hm
        exact h i m j hm hb
      · rw [List.getElem?_append_right hge] at hm
        have hi0 : i - ms.length = 0 := by
          cases hx : i - ms.length with
          | zero => rfl
          | succ n => rw [hx] at hm; simp at hm
        rw [hi0] at hm
        cases hm
        have hi : i = ms.length := by omega
        subst hi
        obtain ⟨e, he, hh⟩ := maskOf_bit j _ hb
        rcases hh with rfl | hh
        · exact .edge _ _ o ho he
        · refine .trans _ e _ o ho he ?_
          cases hx : ms[e]? with
          | none => rw [List.getD, hx] at hh; simp at hh
          | some m => rw [List.getD, hx] at hh; exact h e m j hx hh)
    refine ⟨?_, h2.2⟩
    rw [masks, h2.1]
    simp; omega

theorem pairsOk_spec {m i : Nat} {q : Oper} {y : Rec} : ∀ (rest : List Oper) (xs : List Rec) (k : Nat), pairsOk ops i m q y k rest xs = true → ∀ (j : Nat) (p : Oper) (x : Rec), rest[j]? = some p → xs[j]? = some x → i ≤ k + j ∨ m.testBit (k + j) = true ∨ okRec ops p q x y = true
  | [], xs, k, _, j, p, x, hj, _ => by simp at hj
  | p0 :: rest, [], k, _, j, p, x, _, hx => by simp at hx
  | p0 :: rest, x0 :: xs, k, h, j, p, x, hj, hx => by
    unfold pairsOk at h
    simp only [Bool.and_eq_true, Bool.or_eq_true] at h
    cases j with
    | zero =>
      cases hj; cases hx
      rcases h.1 with (h | h) | h
      · exact .inl (Nat.le_of_ble_eq_true h)
      · exact .inr (.inl h)
      · exact .inr (.inr h)
    | succ j =>
      have := pairsOk_spec rest xs (k + 1) h.2 j p x (by simpa using hj) (by simpa using hx)
      simpa [Nat.add_assoc, Nat.add_comm 1 j] using this

theorem rowsOk_spec {rs : List Rec} : ∀ (rest : List Oper) (ys : List Rec) (ms : List Nat) (k : Nat), rowsOk ops rs k rest ys ms = true → ms.length = rest.length → ∀ (i : Nat) (q : Oper) (y : Rec), rest[i]? = some q → ys[i]? = some y → ∃ m, ms[i]? = some m ∧ pairsOk ops (k + i) m q y 0 ops rs = true
  | [], ys, ms, k, _, _, i, q, y, hi, _ => by simp at hi
  | x :: rest, [], ms, k, _, hl, i, q, y, hi, hy => by simp at hy
  | x :: rest, y0 :: ys, [], k, _, hl, i, q, y, hi, _ => by simp at hl
  | x :: rest, y0 :: ys, m :: ms, k, h, hl, i, q, y, hi, hy => by
    unfold rowsOk at h
    simp only [Bool.and_eq_true] at h
    cases i with
    | zero => cases hi; cases hy; exact ⟨m, rfl, h.1⟩
    | succ i =>
      obtain ⟨m', h1, h2⟩ := rowsOk_spec rest ys ms (k + 1) h.2 (by simpa using hl) i q y (by simpa using hi) (by simpa using hy)
      exact ⟨m', by simpa using h1, by simpa [Nat.add_assoc, Nat.add_comm 1 i] using h2⟩

theorem pair_of {rs : List Rec} (h : rowsOk ops rs 0 ops rs (masks ops []) = true) {j i : Nat} {p q : Oper} {x y : Rec} (hji : j < i) (hp : ops[j]? = some p) (hq : ops[i]? = some q) (hx : rs[j]? = some x) (hy : rs[i]? = some y) (hna : ¬ Anc ops j i) : okRec ops p q x y = true := by
  obtain ⟨hl, hs⟩ := masks_spec (ops := ops) ops [] (fun j => by simp) (fun i m j hm => by simp at hm)
  obtain ⟨m, hm, hpo⟩ := rowsOk_spec ops rs _ 0 h (by simpa using hl) i q y hq hy
  rcases pairsOk_spec ops rs 0 hpo j p x hp hx with h1 | h1 | h1
  · omega
  · exact absurd (hs i m j hm (by simpa using h1)) hna
  · exact h1

theorem back_of : ∀ (rest : List Oper) (k : Nat), backOk k rest = true → ∀ (i : Nat) (o : Oper), rest[i]? = some o → ∀ e ∈ bindsL o, e < k + i
  | [], k, _, i, o, hi => by simp at hi
  | x :: rest, k, h, i, o, hi => by
    unfold backOk at h
    simp only [Bool.and_eq_true, List.all_eq_true] at h
    cases i with
    | zero => cases hi; exact fun e he => Nat.le_of_ble_eq_true (h.1 e he)
    | succ i =>
      have := back_of rest (k + 1) h.2 i o (by simpa using hi)
      exact fun e he => by have := this e he; omega
end

section
variable {P : Program} {X0 : Ctx} {ok : Ob → Prop} {L : Nat → Bool} {ops : Array Oper}

theorem mem_binds {o : Oper} {e : Edge} (he : e ∈ o.after) (hb : Region.binds .any e = true) : e.on ∈ bindsL o := by
  refine List.mem_map.2 ⟨e, List.mem_filter.2 ⟨by simpa using he, ?_⟩, rfl⟩
  unfold Region.binds at hb
  split at hb
  · cases hb
  · cases hb
  · split <;> simp_all

theorem binds_mem {o : Oper} {n : Nat} (h : n ∈ bindsL o) : ∃ e ∈ o.after, Region.binds .any e = true ∧ e.on = n := by
  obtain ⟨e, he, rfl⟩ := List.mem_map.1 h
  obtain ⟨h1, h2⟩ := List.mem_filter.1 he
  refine ⟨e, by simpa using h1, ?_, rfl⟩
  unfold Region.binds
  split <;> simp_all

/-- What has been done is closed: so is what goes ahead of it. -/
def Shut (ops : Array Oper) (listed : Array Bool) : Prop := ∀ (i : Nat) (o : Oper), ops[i]? = some o → listed.getD i true = true → ∀ e ∈ bindsL o, listed.getD e true = true

def rem (n : Nat) (listed : Array Bool) : List Nat := (List.range n).filter fun i => !listed.getD i true

theorem anc_listed {listed : Array Bool} (hS : Shut ops listed) {j i : Nat} (h : Anc ops.toList j i) : (∀ o, ops[i]? = some o → ∀ e ∈ bindsL o, listed.getD e true = true) → listed.getD j true = true := by
  induction h with
  | edge i o ho hj => exact fun h => h o (by rw [← Array.getElem?_toList]; exact ho) j hj
  | trans k i o ho hk hjk ih =>
    intro h
    have hlk := h o (by rw [← Array.getElem?_toList]; exact ho) k hk
    exact ih fun o' ho' => hS k o' ho' hlk

theorem chain_swap {rf : Nat → Rec} {i : Nat} {q : Oper} (hq : ops.toList[i]? = some q) (B : List Nat) : ∀ (A : List Nat) (st st' : St), (∀ j ∈ A, ∀ p, ops.toList[j]? = some p → okRec ops.toList p q (rf j) (rf i) = true) →
    Chain P L ops.toList ok rf (A ++ i :: B) st st' → (∃ id, At P L ops.toList ok i id q st (rf i)) ∧ Chain P L ops.toList ok rf (A ++ B) ((rf i).e.on q.dst st) st'
  | [], st, st', _, h => by
    obtain ⟨o, id, ho, h1, h2, h3⟩ := h
    rw [hq] at ho
    cases ho
    exact ⟨⟨id, h1⟩, h3⟩
  | j :: A, st, st', hA, h => by
    obtain ⟨p, id, hp, h1, h2, h3⟩ := h
    obtain ⟨⟨idq, g1⟩, g2⟩ := chain_swap hq B A _ st' (fun k hk => hA k (by simp [hk])) h3
    obtain ⟨r1, r2, r3, r4⟩ := h1.swap h2 g1 (hA j (by simp) p hp)
    refine ⟨⟨idq, r1⟩, p, id, hp, r2, r3, ?_⟩
    rw [← r4]
    exact g2

theorem rem_split {n : Nat} {listed : Array Bool} {i : Nat} (hi : i ∈ rem n listed) (hsz : listed.size = n) : ∃ A B, rem n listed = A ++ i :: B ∧ (∀ j ∈ A, j < i ∧ j ∈ rem n listed) ∧ rem n (listed.setIfInBounds i true) = A ++ B := by
  have hsorted : (rem n listed).Pairwise (· < ·) := List.Pairwise.filter _ List.pairwise_lt_range
  obtain ⟨A, B, hAB⟩ := List.append_of_mem hi
  have hs := hAB ▸ hsorted
  rw [List.pairwise_append] at hs
  obtain ⟨s1, s2, s3⟩ := hs
  rw [List.pairwise_cons] at s2
  have hA : ∀ j ∈ A, j < i := fun j hj => s3 j hj i (by simp)
  refine ⟨A, B, hAB, fun j hj => ⟨hA j hj, by rw [hAB]; simp [hj]⟩, ?_⟩
  have : rem n (listed.setIfInBounds i true) = (rem n listed).filter fun j => !Nat.beq j i := by
    unfold rem
    rw [List.filter_filter]
    refine List.filter_congr fun j hj => ?_
    have hjn : j < n := List.mem_range.1 hj
    by_cases hij : i = j
    · subst hij
      have : (listed.setIfInBounds i true).getD i true = true := by simp [hsz, hjn]
      rw [this]
      simp [Nat.beq_refl]
    · rw [getD_set_ne true hij]
      have : Nat.beq j i = false := by
        cases hb : Nat.beq j i with
        | false => rfl
        | true => exact absurd (Nat.eq_of_beq_eq_true hb).symm hij
      simp [this]
  rw [this, hAB, List.filter_append, List.filter_cons]
  simp only [Nat.beq_refl, Bool.not_true, Bool.false_eq_true, if_false]
  have f1 : A.filter (fun j => !Nat.beq j i) = A := List.filter_eq_self.2 fun j hj => by
    cases hb : Nat.beq j i with
    | false => rfl
    | true => have := Nat.eq_of_beq_eq_true hb; have := hA j hj; omega
  have f2 : B.filter (fun j => !Nat.beq j i) = B := List.filter_eq_self.2 fun j hj => by
    cases hb : Nat.beq j i with
    | false => rfl
    | true => have := Nat.eq_of_beq_eq_true hb; have := s2.1 j hj; omega
  rw [f1, f2]

theorem any_sound (hok : OkOb ok) (hC : CallsOk P ok) {rf : Nat → Rec} (hback : backOk 0 ops.toList = true) (hpair : ∀ (j i : Nat) (p q : Oper), j < i → ops.toList[j]? = some p → ops.toList[i]? = some q → ¬ Anc ops.toList j i → okRec ops.toList p q (rf j) (rf i) = true)
    {st' : St} {Q : Exit → Act → World → Prop} (hQ : ∀ X' a' w', Inv X0 X' st' a' w' → Q .normal a' w') :
    ∀ (n : Nat) (listed : Array Bool) (st : St) (X : Ctx) (a : Act) (w : World), (rem ops.size listed).length = n → listed.size = ops.size → Shut ops listed → Inv X0 X st a w → Chain P L ops.toList ok rf (rem ops.size listed) st st' →
      wpAny P .any ops Q n listed a w := by
  intro n
  have hready : ∀ {listed : Array Bool} {i : Nat}, i ∈ Region.ready .any ops listed → i ∈ rem ops.size listed ∧ (∀ o, ops[i]? = some o → ∀ e ∈ bindsL o, listed.getD e false = true) := by
    intro listed i hi
    obtain ⟨h1, o, ho, hall⟩ := mem_ready.1 hi
    refine ⟨List.mem_filter.2 ⟨List.mem_range.2 (Array.getElem?_eq_some_iff.1 ho).1, by rw [h1]; rfl⟩, fun o' ho' e he => ?_⟩
    rw [ho] at ho'
    cases ho'
    obtain ⟨ed, hed, hb, rfl⟩ := binds_mem he
    exact hall ed hed hb
  induction n with
  | zero =>
    intro listed st X a w hn hsz hS hI hr
    have hnil : rem ops.size listed = [] := List.length_eq_zero_iff.1 hn
    rw [hnil] at hr
    cases hr
    refine ⟨?_, hQ X a w hI⟩
    cases hx : Region.ready .any ops listed with
    | nil => rfl
    | cons i l =>
      have := (hready (listed := listed) (i := i) (by rw [hx]; simp)).1
      rw [hnil] at this
      cases this
  | succ n ih =>
    intro listed st X a w hn hsz hS hI hr
    have ft : ∀ e, listed.getD e false = true → listed.getD e true = true := fun e he => by
      rcases Nat.lt_or_ge e listed.size with h' | h'
      · simpa [h'] using he
      · simp [Array.getElem?_eq_none h'] at he
    refine ⟨fun hnil => ?_, fun i hi => ?_⟩
    · -- the first that is left is ready
      exfalso
      cases hL : rem ops.size listed with
      | nil => rw [hL] at hn; cases hn
      | cons j L =>
        have hj : j ∈ rem ops.size listed := by rw [hL]; simp
        obtain ⟨hj1, hj2⟩ := List.mem_filter.1 hj
        have hjn := List.mem_range.1 hj1
        have hsorted : (rem ops.size listed).Pairwise (· < ·) := List.Pairwise.filter _ List.pairwise_lt_range
        rw [hL, List.pairwise_cons] at hsorted
        have hjr : j ∈ Region.ready .any ops listed := by
          refine mem_ready.2 ⟨by simpa using hj2, ops[j], Array.getElem?_eq_getElem hjn, fun e he hb => ?_⟩
          have hlt := back_of _ 0 hback j ops[j] (by rw [Array.getElem?_toList]; exact Array.getElem?_eq_getElem hjn) e.on (mem_binds he hb)
          have hlt' : e.on < j := by omega
          cases hx : listed.getD e.on false with
          | true => rfl
          | false =>
            exfalso
            have hen : e.on < ops.size := by omega
            have hem : e.on ∈ rem ops.size listed := by
              refine List.mem_filter.2 ⟨List.mem_range.2 hen, ?_⟩
              have hes : e.on < listed.size := by omega
              simp [hes] at hx
              simp [hes, hx]
            rw [hL] at hem
            rcases List.mem_cons.1 hem with h | h
            · omega
            · have := hsorted.1 _ h
              omega
        rw [hnil] at hjr
        cases hjr
    · obtain ⟨him, hpre⟩ := hready hi
      obtain ⟨A, B, hAB, hA, hrem⟩ := rem_split him hsz
      have hin : i < ops.size := List.mem_range.1 (List.mem_filter.1 him).1
      have hoi : ops[i]? = some ops[i] := Array.getElem?_eq_getElem hin
      rw [hAB] at hr
      obtain ⟨⟨id, he⟩, hr'⟩ := chain_swap (by rw [Array.getElem?_toList]; exact hoi) B A st st' (fun j hj p hp => hpair j i p _ (hA j hj).1 hp (by rw [Array.getElem?_toList]; exact hoi) fun hanc => by
        have h1 := anc_listed hS hanc (fun o ho e he => ft e (hpre o ho e he))
        have h2 := (List.mem_filter.1 (hA j hj).2).2
        simp [h1] at h2) hr
      unfold wpOp
      rw [hoi]
      simp only []
      refine step_sound hok hC hI he.ev fun X' a' w' hI' => ?_
      refine ih (listed.setIfInBounds i true) _ X' a' w' ?_ (by simpa using hsz) ?_ hI' (by rw [hrem]; exact hr')
      · rw [hrem]
        rw [hAB] at hn
        simp at hn ⊢
        omega
      · intro k o hk hl e he
        have up : ∀ m, listed.getD m true = true → (listed.setIfInBounds i true).getD m true = true := fun m hm => by
          by_cases hmi : i = m
          · subst hmi
            simp [hsz, hin]
          · rw [getD_set_ne true hmi]; exact hm
        by_cases hki : i = k
        · subst hki
          exact up e (ft e (hpre o hk e he))
        · rw [getD_set_ne true hki] at hl
          exact up e (hS k o hk hl e he)

theorem region_sound (hok : OkOb ok) (hC : CallsOk P ok) (hm : P.follows .mixedOrders = true) {X : Ctx} {st : St} {a : Act} {w : World} (h : Inv X0 X st a w) {id : Nat} {draw : Bool} {m : Nat} {R : Type} {k : Ex → St → Ans R} {s : List Say} {l : List Ob} {r : R}
    (hk : opsE P L ops.toList 0 st.heap.length ops.toList (grow (idsTo P ops.toList ops.toList.length) st) (fun rs st => match !draw || drawOk ops.toList rs with
      | true => k .normal { st with heap := trim m st.heap }
      | false => Ans.fail) s = some (l, r)) (hl : ∀ o ∈ l, ok o) :
    ∃ st' s' l', k .normal st' s' = some (l', r) ∧ (∀ o ∈ l', ok o) ∧ ∀ Q : Exit → Act → World → Prop, (∀ X' a' w', Inv X0 X' st' a' w' → Q .normal a' w') → (Code.region id ops draw).wp P Q a w := by
  obtain ⟨rs, st', s', l', h1, h2, h3, h4⟩ := ops_ok hok ops.toList 0 _ _ _ s l r hk hl (fun j => by simp)
  cases hd : !draw || drawOk ops.toList rs with
  | false => rw [hd] at h1; cases h1
  | true =>
    rw [hd] at h1
    refine ⟨_, s', l', h1, h2, fun Q hQ => ?_⟩
    have hQ' : ∀ X' a' w', Inv X0 X' st' a' w' → Q .normal a' w' := fun X' a' w' hI => hQ X' a' w' (hI.trim m)
    have hI := h.grow (idsTo P ops.toList ops.toList.length)
    have hch := h4 (fun i => rs.getD i ⟨{ val := dead }, [], [], [], []⟩) fun j x hj => by simp [List.getD, hj]
    rw [Array.length_toList, ← List.range_eq_range'] at hch
    cases draw with
    | false => exact wp_region (chain_wp hok hC hQ' _ _ _ _ _ hI hch)
    | true =>
      have hdr : drawOk ops.toList rs = true := by simpa using hd
      simp only [drawOk, Bool.and_eq_true] at hdr
      have hrem : rem ops.size (Array.replicate ops.size false) = List.range ops.size := by
        unfold rem
        refine List.filter_eq_self.2 fun i hi => ?_
        have := List.mem_range.1 hi
        simp [this]
      have hI' := hI.drawn (W := { w with drawn := w.drawn + 1 }) rfl rfl rfl rfl
      refine wp_region_any hm ?_
      exact any_sound hok hC hdr.1 (fun j i p q hji hp hq hna => by
        have lj := (List.getElem?_eq_some_iff.1 hp).1
        have li := (List.getElem?_eq_some_iff.1 hq).1
        rw [← h3] at lj li
        have ej : rs[j]? = some (rs.getD j ⟨{ val := dead }, [], [], [], []⟩) := by simp [List.getD, lj]
        have ei : rs[i]? = some (rs.getD i ⟨{ val := dead }, [], [], [], []⟩) := by simp [List.getD, li]
        exact pair_of hdr.2 hji hp hq ej ei hna) hQ' ops.size (Array.replicate ops.size false) _ _ a _ (by rw [hrem]; simp) (by simp) (fun i o ho hl => by
        have hi := (Array.getElem?_eq_some_iff.1 ho).1
        simp [hi] at hl) hI' (by rw [hrem]; exact hch)
end
end Go.Bm
