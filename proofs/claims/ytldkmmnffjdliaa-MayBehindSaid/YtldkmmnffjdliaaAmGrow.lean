/- The abstract machine is sound, operation by operation: loads that take a right, appends. -/
import Derived.Test.YtldkmmnffjdliaaAmAppend
namespace Go.Am
set_option autoImplicit false
set_option linter.unusedVariables false
set_option linter.unusedSimpArgs false

section
variable {P : Program} {X0 X : Ctx} {st : St} {a : Act} {w W : World}

/-! ### a cell's right goes to a temporary -/
theorem Inv.takeCell (h : Inv X0 X st a w) {b d : Nat} {B B' : Blk} (hB : st.heap[b]? = some B) {p : Pos} {g : Nat} (ho : X.own g = some p) (hp : ∀ t, p ≠ .tmp t) (hpb : ∀ k, k ≠ b → (∀ j, Pos.cell k j ≠ p) ∧ ∀ i j, Pos.acell k i j ≠ p)
    (hd : X.dom b) (hB' : BlkRel (X.give g (.tmp d)) b B') : Inv X0 (X.give g (.tmp d)) { st with heap := st.heap.set b B' } a w := by
  have hL : ∀ q, q ≠ p → Lasts X (X.give g (.tmp d)) q := fun q hq => Lasts.give ho hq
  refine ⟨h.hw, h.hd, h.tsz, fun t v V hv hV => (h.tmps t v V hv hV).stab (Stab.give X g _) fun q hq => by cases hq; exact hL _ (hp t).symm, ⟨fun k K hK => ?_, fun k hk => by rw [List.length_set]; exact h.heap.lt k hk, h.heap.inj, fun k hk => ?_⟩, h.fresh.give ho, h.fr.give ho⟩
  · rcases set_get _ _ _ _ _ hK with ⟨rfl, rfl, _⟩ | ⟨hkb, hK⟩
    · exact hB'
    · exact (h.heap.blk k K hK).stab (Stab.give X g _) (fun hh => hh) (fun _ => rfl) (fun j => hL _ ((hpb k hkb).1 j)) (fun i j => hL _ ((hpb k hkb).2 i j))
  · obtain ⟨h1, h2⟩ := h.heap.free k hk
    refine ⟨?_, h2⟩
    have : X.φ k ≠ g := fun e => by rw [e, ho] at h1; cases h1
    simp [Ctx.give, this, h1]

theorem set_self {α : Type} {l : List α} {i : Nat} {v : α} (h : l[i]? = some v) : l.set i v = l := by
  apply List.ext_getElem?
  intro j
  rw [List.getElem?_set]
  by_cases e : i = j
  · subst e
    have := (List.getElem?_eq_some_iff.1 h).1
    simp only [if_true, if_pos this, h]
  · rw [if_neg e]
theorem set_get' {α : Type} {l : List α} {d : Nat} {v u : α} {t : Nat} (h : (l.set d v)[t]? = some u) : (t = d ∧ u = v) ∨ (t ≠ d ∧ l[t]? = some u) := by
  rcases set_get _ _ _ _ _ h with ⟨h1, h2, _⟩ | h
  · exact .inl ⟨h1, h2⟩
  · exact .inr h

theorem size1 {t : TypeId} {v : AV} {V : Value} {X : Ctx} {π : Option Pos} {g o : Nat} (hn : sizeT P t = some 1) (ha : isAggT P t = false) (hc : w.cell? ⟨g, o, none⟩ = some V) : (Instr.loadAt t (.pointer (some ⟨g, o, none⟩))).run P w = .ok V w := by
  have := load_run (P := P) (w := w) (t := t) (g := g) (o := o) (Cs := [V]) hn (fun _ => rfl) (fun j U hU => by
    cases j with
    | zero => cases hU; simpa using hc
    | succ j => cases hU)
  rw [this]
  simp [asV, ha]

theorem loadTake_sound (h : Inv X0 X st a w) {m : Nat} {t : TypeId} {x v : AV} {Vx : Value} {b : Nat} {B : Blk} (hx : VA X none x Vx) (hs : loadTake P (st.heap.take m) t x = some (v, b, B)) (dst : Option Nat) :
    ∃ X' V, (Instr.loadAt t Vx).run P w = .ok V w ∧ Inv X0 X' ((Eff.mk v none [(b, B)]).on dst st) (a.put dst V) w := by
  have hw := h.hw
  unfold loadTake at hs
  split at hs
  · rename_i hn
    cases ha : isAggT P t with
    | true => rw [ha] at hs; cases hs
    | false =>
    rw [ha] at hs
    simp only [cond_false] at hs
    split at hs
    · rename_i b' off
      split at hs
      · rename_i cs hB
        split at hs
        · rename_i u hu
          cases hs
          cases hx with | ptr _ _ _ hd => ?_
          have hBl := getB_take hB (by simp)
          obtain ⟨_, cur, e, hb, hcur, hcr⟩ := h.heap.blk b _ hBl
          have huo : cs[off]? = some v := (part_get (n := 1) (j := 0) (by rw [hu]; rfl)).2
          have hlt : off < cs.length := (List.getElem?_eq_some_iff.1 huo).1
          have hV : cur[off]? = some cur[off] := Array.getElem?_eq_getElem (by omega)
          obtain ⟨hva, hone⟩ := hcr off v _ huo hV
          have hrun := size1 (P := P) (w := w) (v := v) (V := cur[off]) (X := X) (π := none) (g := X.φ b) (o := off) hn ha (by rw [← hw, cellAt hb]; exact hV)
          have plain : VA X none v cur[off] → v.borrow = v → Inv X0 X { st with heap := st.heap.set b (.box (cs.set off v.borrow)) } a w := by
            intro hvn hvb
            have e1 : cs.set off v.borrow = cs := by rw [hvb]; exact set_self huo
            have e2 : st.heap.set b (.box (cs.set off v.borrow)) = st.heap := by rw [e1]; exact set_self hBl
            rw [e2]; exact h
          by_cases hsr : ∃ n f, v = .seqR n f
          · obtain ⟨n, f, rfl⟩ := hsr
            generalize cur[off] = V at *
            cases hva with
            | seqR0 f A =>
              have hI : Inv X0 X { st with heap := st.heap.set b (.box (cs.set off (AV.seqR 0 f).borrow)) } a w := by
                refine ⟨hw, h.hd, h.tsz, h.tmps, ⟨fun k K hK => ?_, fun k hk => by rw [List.length_set]; exact h.heap.lt k hk, h.heap.inj, h.heap.free⟩, h.fresh, h.fr⟩
                rcases set_get _ _ _ _ _ hK with ⟨rfl, rfl, _⟩ | ⟨hkb, hK⟩
                · refine ⟨hd, cur, e, hb, by simp [hcur], fun j v V hv hVj => ?_⟩
                  rcases set_get' hv with ⟨rfl, rfl⟩ | ⟨_, hv⟩
                  · exact ⟨(hcr j _ V huo hVj).1.borrow _, (hcr j _ V huo hVj).2⟩
                  · exact hcr j v V hv hVj
                · exact h.heap.blk k K hK
              exact ⟨X, _, hrun, hI.put dst fun d hd => .seqR0 _ _ _⟩
            | seqR q n f g cap e' cur' sz C ho hb' hsz hcur' hn' hm hs' hR hC hh =>
              cases dst with
              | none =>
                have hI := h.takeCell (d := 0) (B' := .box (cs.set off (AV.seqR n f).borrow)) hBl ho (fun t => by simp) (fun k hk => ⟨fun j => by simp [hk], fun i j => by simp⟩) hd ?_
                · exact ⟨_, _, hrun, hI⟩
                · refine ⟨hd, cur, e, hb, by simp [hcur], fun j v V hv hVj => ?_⟩
                  rcases set_get' hv with ⟨rfl, rfl⟩ | ⟨hne, hv⟩
                  · exact ⟨((hcr j _ V huo hVj).1.borrow none).stab (Stab.give X g _) (fun p hp => by cases hp) |>.any _, (hcr j _ V huo hVj).2⟩
                  · exact ⟨(hcr j v V hv hVj).1.stab (Stab.give X g _) fun p hp => by cases hp; exact Lasts.give ho (by simpa using hne), (hcr j v V hv hVj).2⟩
              | some d =>
                have hI := h.takeCell (d := d) (B' := .box (cs.set off (AV.seqR n f).borrow)) hBl ho (fun t => by simp) (fun k hk => ⟨fun j => by simp [hk], fun i j => by simp⟩) hd ?_
                · refine ⟨_, _, hrun, hI.put (some d) fun t ht => ?_⟩
                  cases ht
                  exact .seqR (.tmp d) n f g cap e' cur' sz C (by simp [Ctx.give]) hb' hsz hcur' hn' hm hs' hR hC hh
                · refine ⟨hd, cur, e, hb, by simp [hcur], fun j v V hv hVj => ?_⟩
                  rcases set_get' hv with ⟨rfl, rfl⟩ | ⟨hne, hv⟩
                  · exact ⟨((hcr j _ V huo hVj).1.borrow none).stab (Stab.give X g _) (fun p hp => by cases hp) |>.any _, (hcr j _ V huo hVj).2⟩
                  · exact ⟨(hcr j v V hv hVj).1.stab (Stab.give X g _) fun p hp => by cases hp; exact Lasts.give ho (by simpa using hne), (hcr j v V hv hVj).2⟩
          · have hvb : v.borrow = v := by cases v <;> first | rfl | exact absurd ⟨_, _, rfl⟩ hsr
            have hvn : VA X none v cur[off] := by have := hva.borrow none; rwa [hvb] at this
            exact ⟨X, _, hrun, (plain hvn hvb).put dst fun d hd => hvn.any _⟩
        · cases hs
      · cases hs
    · rename_i b' i off
      split at hs
      · rename_i sz len f hB
        split at hs
        · rename_i u hu
          cases hs
          cases hx with | aptr _ _ _ _ hd hi => ?_
          have hBl := getB_take hB (by simp)
          obtain ⟨_, hsz, hln, hz, cur, e, hb, hcur, hf, hcr⟩ := h.heap.blk b _ hBl
          have hi' : i < len := by rw [← hln]; exact hi
          have huo : (f i)[off]? = some v := (part_get (n := 1) (j := 0) (by rw [hu]; rfl)).2
          have hlt : off < sz := by rw [← hf i hi']; exact (List.getElem?_eq_some_iff.1 huo).1
          have hlt2 := lt_mul_of hi' hlt
          have hV : cur[i * sz + off]? = some cur[i * sz + off] := Array.getElem?_eq_getElem (by omega)
          obtain ⟨hva, hone⟩ := hcr i off v _ hi' huo hV
          have hrun := size1 (P := P) (w := w) (v := v) (V := cur[i * sz + off]) (X := X) (π := none) (g := X.φ b) (o := i * sz + off) hn ha (by rw [← hw, cellAt hb]; exact hV)
          have blk : ∀ (Y : Ctx), Stab X Y → (∀ q, q ≠ Pos.acell b i off → Lasts X Y q) → Y.w = X.w → BlkRel Y b (.arr sz len (upd f i ((f i).set off v.borrow))) := by
            intro Y hS hL hYw
            refine ⟨(hS.dom b hd).1, (hS.dom b hd).2.2.1.trans hsz, (hS.dom b hd).2.2.2.trans hln, hz, cur, e, by rw [(hS.dom b hd).2.1, hYw]; exact hb, hcur, fun k hk => ?_, fun k j u V hk hv hVj => ?_⟩
            · by_cases hki : k = i
              · subst hki; simp [upd, hf k hk]
              · simp only [upd, if_neg hki]; exact hf k hk
            · by_cases hki : k = i
              · subst hki
                simp only [upd, if_true] at hv
                rcases set_get' hv with ⟨rfl, rfl⟩ | ⟨hne, hv⟩
                · exact ⟨((hcr k j _ V hk huo hVj).1.borrow none).stab hS (fun p hp => by cases hp) |>.any _, (hcr k j _ V hk huo hVj).2.1, flatB_borrow (hcr k j _ V hk huo hVj).2.2⟩
                · exact ⟨(hcr k j u V hk hv hVj).1.stab hS fun p hp => by cases hp; exact hL _ (by simpa using hne), (hcr k j u V hk hv hVj).2⟩
              · simp only [upd, if_neg hki] at hv
                exact ⟨(hcr k j u V hk hv hVj).1.stab hS fun p hp => by cases hp; exact hL _ (by simp [hki]), (hcr k j u V hk hv hVj).2⟩
          have same : Inv X0 X { st with heap := st.heap.set b (.arr sz len (upd f i ((f i).set off v.borrow))) } a w := by
            refine ⟨hw, h.hd, h.tsz, h.tmps, ⟨fun k K hK => ?_, fun k hk => by rw [List.length_set]; exact h.heap.lt k hk, h.heap.inj, h.heap.free⟩, h.fresh, h.fr⟩
            rcases set_get _ _ _ _ _ hK with ⟨rfl, rfl, _⟩ | ⟨hkb, hK⟩
            · exact blk X (Stab.refl X) (fun q _ g hg => ⟨hg, rfl, fun _ h => h⟩) rfl
            · exact h.heap.blk k K hK
          rw [hsz]
          by_cases hsr : ∃ n f, v = .seqR n f
          · obtain ⟨n, f', rfl⟩ := hsr
            generalize cur[i * sz + off] = V at *
            cases hva with
            | seqR0 f A => exact ⟨X, _, hrun, same.put dst fun d hd => .seqR0 _ _ _⟩
            | seqR q n f'' g cap e' cur' sz' C ho hb' hsz' hcur' hn' hm hs' hR hC hh =>
              cases dst with
              | none => exact ⟨X, _, hrun, same⟩
              | some d =>
                have hI := h.takeCell (d := d) (B' := .arr sz len (upd f i ((f i).set off (AV.seqR n f').borrow))) hBl ho (fun t => by simp) (fun k hk => ⟨fun j => by simp, fun i j => by simp [hk]⟩) hd
                  (blk _ (Stab.give X g _) (fun q hq => Lasts.give ho hq) rfl)
                refine ⟨_, _, hrun, hI.put (some d) fun t ht => ?_⟩
                cases ht
                exact .seqR (.tmp d) n f' g cap e' cur' sz' C (by simp [Ctx.give]) hb' hsz' hcur' hn' hm hs' hR hC hh
          · have hvb : v.borrow = v := by cases v <;> first | rfl | exact absurd ⟨_, _, rfl⟩ hsr
            have hvn : VA X none v cur[i * sz + off] := by have := hva.borrow none; rwa [hvb] at this
            exact ⟨X, _, hrun, same.put dst fun d hd => hvn.any _⟩
        · cases hs
      · cases hs
    · cases hs
  · cases hs

/-! ### appends -/
/-- The cells that are to be appended. -/
theorem src_sound (hH : HeapOk X st.heap) {m0 : Nat} {x : AV} {Vx : Value} {m : Nat} {g : Nat → List PV} (hx : VA X none x Vx) (h : srcOf (st.heap.take m0) x = some (m, g)) :
    ∃ (A : Option Addr) (c sz : Nat) (C : Nat → Nat → Value), Vx = .slice A m c ∧ (∀ i : Nat, i < m → (g i).length = sz) ∧ (0 < m → ∃ b o, A = some ⟨b, o, none⟩ ∧ ∀ i j, i < m → j < sz → X.w.cell? ⟨b, o + (i * sz + j), none⟩ = some (C i j)) ∧
      (∀ (i j : Nat) (p : PV), i < m → (g i)[j]? = some p → VP X.R X.w p (C i j)) := by
  unfold srcOf at h
  split at h
  · cases h
    cases hx with | pv _ _ _ hx => ?_
    cases hx with | seq _ _ A cap sz C hn hs hA hp => ?_
    exact ⟨A, cap, sz, C, rfl, hs, fun h0 => by obtain ⟨b, o, e, hc⟩ := hA h0; exact ⟨b, o, e, fun i j hi hj => (hc i j hi hj).2⟩, hp⟩
  · cases h
    cases hx with | nil _ _ A => ?_
    exact ⟨A, 0, 0, fun _ _ => undef, rfl, fun i hi => absurd hi (Nat.not_lt_zero i), fun h0 => absurd h0 (Nat.lt_irrefl 0), fun i j p hi => absurd hi (Nat.not_lt_zero i)⟩
  · rename_i b lo n
    split at h
    · rename_i sz len f hB
      cases h
      cases hx with
      | ms0 _ _ _ A cap hd => exact ⟨A, cap, 0, fun _ _ => undef, rfl, fun i hi => absurd hi (Nat.not_lt_zero i), fun h0 => absurd h0 (Nat.lt_irrefl 0), fun i j p hi => absurd hi (Nat.not_lt_zero i)⟩
      | ms _ _ _ _ cap hd hn hl =>
        obtain ⟨_, hsz, hln, hz, cur, e, hb, hcur, hf, hcr⟩ := hH.blk b _ (getB_take hB (by simp))
        refine ⟨_, cap, sz, fun i j => cur.getD ((lo + i) * sz + j) undef, rfl, fun i hi => by simp [rowSeq, hi, hf (lo + i) (by omega)], fun _ => ⟨X.φ b, lo * X.sz b, rfl, fun i j hi hj => ?_⟩, fun i j p hi hp => ?_⟩
        · have hlt := lt_mul_of (show lo + i < len by omega) hj
          rw [cellAt hb, hsz, show lo * sz + (i * sz + j) = (lo + i) * sz + j by rw [Nat.add_mul]; omega]
          simp [Array.getD, hcur, hlt]
        · rw [rowSeq, if_pos hi, List.getElem?_map] at hp
          cases hu : (f (lo + i))[j]? with
          | none => rw [hu] at hp; cases hp
          | some u =>
            rw [hu] at hp
            cases hp
            have hj : j < sz := by rw [← hf (lo + i) (by omega)]; exact (List.getElem?_eq_some_iff.1 hu).1
            have hlt := lt_mul_of (show lo + i < len by omega) hj
            have hV : cur[(lo + i) * sz + j]? = some (cur.getD ((lo + i) * sz + j) undef) := by simp [Array.getD, hcur, hlt]
            obtain ⟨hva, hone⟩ := hcr (lo + i) j u _ (by omega) hu hV
            exact hva.pure' hone.1
    · cases h
  · cases h

def flatC (C : Nat → Nat → Value) (sz m : Nat) : List Value := (List.range (m * sz)).map fun k => C (k / sz) (k % sz)
theorem flatC_len (C : Nat → Nat → Value) (sz m : Nat) : (flatC C sz m).length = m * sz := by simp [flatC]
theorem flatC_get (C : Nat → Nat → Value) {sz m i j : Nat} (hi : i < m) (hj : j < sz) : (flatC C sz m)[i * sz + j]? = some (C i j) := by
  have hlt := lt_mul_of hi hj
  have h1 : (i * sz + j) / sz = i := by
    rw [Nat.mul_comm, Nat.mul_add_div (by omega), Nat.div_eq_of_lt hj, Nat.add_zero]
  have h2 : (i * sz + j) % sz = j := by rw [Nat.mul_comm, Nat.mul_add_mod]; exact Nat.mod_eq_of_lt hj
  simp [flatC, hlt, h1, h2]
theorem flatC_inv (C : Nat → Nat → Value) {sz m k : Nat} {V : Value} (h : (flatC C sz m)[k]? = some V) : 0 < sz ∧ k / sz < m ∧ k % sz < sz ∧ V = C (k / sz) (k % sz) ∧ k = k / sz * sz + k % sz := by
  have hlt : k < m * sz := by rw [← flatC_len C sz m]; exact (List.getElem?_eq_some_iff.1 h).1
  have hsz : 0 < sz := by
    rcases Nat.eq_zero_or_pos sz with h0 | h0
    · rw [h0] at hlt; omega
    · exact h0
  refine ⟨hsz, Nat.div_lt_of_lt_mul (by rw [Nat.mul_comm]; exact hlt), Nat.mod_lt _ hsz, ?_, by rw [Nat.mul_comm]; exact (Nat.div_add_mod k sz).symm⟩
  simp [flatC, hlt] at h
  exact h.symm

theorem run_append_none {t u ty e : TypeId} {i : TypeInfo} (hu : P.underlying t = some (.slice e)) (hi : P.info? e = some i) (A B : Option Addr) (n cap c : Nat) (hn : n ≤ cap) :
    (Builtin.append_ #[t, t] ty #[.slice A n cap, .slice B 0 c]).run P w = .ok (.slice A n cap) w := by
  cases A <;> cases B <;> simp [Builtin.append_, run_underlying hu, sizeOf, typeInfo, hi, Builtin.lenOf, hn, Builtin.firstCells, loadCells, loadCellsFrom, storeCells]

theorem run_append_room' {t ty e e' : TypeId} {i : TypeInfo} (ht : P.underlying t = some (.slice e)) (hi : P.info? e = some i) {g sLen sCap : Nat} {cur : Array Value} (hg : w.heap[g]? = some (.cells cur e' (0, 0)))
    {b : Addr} {m c : Nat} {news : List Value} (hl : news.length = m * i.size) (hnews : ∀ (j : Nat) (u : Value), news[j]? = some u → w.cell? (b.add j) = some u) (h1 : ∀ u ∈ news, u.oneCell' = true)
    (hroom : sLen + m ≤ sCap) (hfit : sLen * i.size + news.length ≤ cur.size) :
    (Builtin.append_ #[t, t] ty #[.slice (some ⟨g, 0, none⟩) sLen sCap, .slice (some b) m c]).run P w =
      .ok (.slice (some ⟨g, 0, none⟩) (sLen + m) sCap) (w.setRow g (cur.toList.take (sLen * i.size) ++ news ++ cur.toList.drop (sLen * i.size + news.length)).toArray) := by
  have hf := run_firstCells_some (P := P) w i.size m b m c news hl hnews
  have hst := run_storeCells_at (P := P) g (sLen * i.size) e' news 0 cur w hg (by simpa using hfit) h1
  simp only [Nat.add_zero] at hst
  simp [Builtin.append_, run_underlying ht, sizeOf, typeInfo, hi, Builtin.lenOf, hroom, hf, add_none, hst]

theorem zeroCells_size (z : Array Value) (n : Nat) : (Builtin.zeroCells z n).size = n * z.size := by simp [Builtin.zeroCells]

/-- The right and the slice to which is appended. -/
theorem append_sound (h : Inv X0 X st a w) {m0 : Nat} {t : TypeId} {s : Operand} {x : AV} {Vx : Value} {eff : Eff} (hx : VA X none x Vx) (hk : appendK P (st.heap.take m0) t (evT st.tmps s) (tkOf s) x some = some eff) (ty : TypeId) (dst : Option Nat) :
    ∃ X' V W, (Builtin.append_ #[t, t] ty #[a.eval s, Vx]).run P w = .ok V W ∧ Inv X0 X' (eff.on dst st) (a.put dst V) W := by
  have hw := h.hw
  unfold appendK at hk
  split at hk
  · rename_i e hu
    split at hk
    · rename_i i z hi hz
      obtain ⟨hc, hk⟩ := need_some hk
      simp only [Bool.and_eq_true] at hc
      obtain ⟨⟨c1, c2⟩, c3⟩ := hc
      have c1 := Nat.le_of_ble_eq_true c1
      have c2 := Nat.le_of_ble_eq_true c2
      have c3 := Nat.eq_of_beq_eq_true c3
      obtain ⟨it, Z, hi', hZ, hf⟩ := zeroOf_sound hz
      rw [hi] at hi'
      cases hi'
      have hzc : Z.cells.size = i.size := by have := (zfit_sound X hf).1; rw [Array.length_toList] at this; omega
      split at hk
      · cases hk
      · rename_i m g hsrc
        obtain ⟨B, c, sz, C, rfl, hgs, hgc, hgp⟩ := src_sound (m0 := m0) h.heap hx hsrc
        -- the cells that are appended, where there are any
        have news : 0 < m → (g 0).length = i.size → ∃ b o, B = some ⟨b, o, none⟩ ∧ sz = i.size ∧ (∀ (j : Nat) (V : Value), (flatC C i.size m)[j]? = some V → w.cell? ((⟨b, o, none⟩ : Addr).add j) = some V) ∧ (∀ u ∈ flatC C i.size m, u.oneCell' = true) := by
          intro h0 hg0
          obtain ⟨b, o, e1, hc⟩ := hgc h0
          have e2 : sz = i.size := (hgs 0 h0).symm.trans hg0
          subst e2
          refine ⟨b, o, e1, rfl, fun j V hV => ?_, fun u hu' => ?_⟩
          · obtain ⟨q1, q2, q3, q4, q5⟩ := flatC_inv C hV
            rw [add_none, q5, q4, ← hw]
            exact hc _ _ q2 q3
          · obtain ⟨j, hj⟩ := List.getElem?_of_mem hu'
            obtain ⟨q1, q2, q3, q4, q5⟩ := flatC_inv C hj
            have hl : j % i.size < (g (j / i.size)).length := by rw [hgs _ q2]; exact q3
            rw [q4]
            exact (hgp _ _ _ q2 (List.getElem?_eq_getElem hl)).one
        -- a new block
        have grown : ∀ (n old : Nat) (f : Nat → List PV) (olds : List Value) (D : Nat → Nat → Value), n ≤ old → old < n + m → ((∀ k, k < n → (f k).length = i.size) ∧ (f n).length = i.size) → (g 0).length = i.size → (n + m) * i.bytes ≤ reach → olds.length = n * i.size → (∀ k j, k < n → j < i.size → olds[k * i.size + j]? = some (D k j)) →
            (∀ (k j : Nat) (p : PV), k < n → (f k)[j]? = some p → VP X.R X.w p (D k j)) →
            ∀ V W, V = .slice (some ⟨w.heap.size, 0, none⟩) (n + m) (grownCap w (n + m) old e) → W = w.drew.alloc (.cells (olds.toArray ++ (flatC C i.size m).toArray ++ Builtin.zeroCells Z.cells (grownCap w (n + m) old e - (n + m))) e) →
            ∃ X', Inv X0 X' ((Eff.mk (.seqR (n + m) (app n f m g)) (tkOf s) []).on dst st) (a.put dst V) W := by
          intro n old f olds D hno hold hfl hg0 hb hol hod hfp V W hV hW
          subst hV hW
          have hm : 0 < m := by omega
          obtain ⟨b, o, e1, e2, _, _⟩ := news hm hg0
          have hmax : n + m ≤ maxLen := by
            have := Nat.mul_le_mul_left (n + m) c2
            unfold maxLen; unfold reach at hb; omega
          have hge := grownCap_ge w (n + m) old e
          have hcm := grownCap_le_maxLen w (n + m) old e hmax
          have hG := Grew.drew w (.cells (olds.toArray ++ (flatC C i.size m).toArray ++ Builtin.zeroCells Z.cells (grownCap w (n + m) old e - (n + m))) e)
          have hI := (h.dropRight (tkOf s)).fresh' hG (fun off => off < (n + m) * i.size) (dst.map .tmp)
          refine ⟨_, hI.put dst fun d hd => ?_⟩
          subst hd
          have hS : Stab X (X.fresh _ (fun off => off < (n + m) * i.size) ((some d).map .tmp)) := Stab.fresh h.fresh (by rw [hw]; exact hG)
          have hF := h.fresh
          have hN : X.w.heap.size = w.heap.size := by rw [hw]
          have hget : ∀ k j, k < n + m → j < i.size → (olds.toArray ++ (flatC C i.size m).toArray ++ Builtin.zeroCells Z.cells (grownCap w (n + m) old e - (n + m)))[k * i.size + j]? = some (if k < n then D k j else C (k - n) j) := by
            intro k j hk hj
            have hlt := lt_mul_of hk hj
            have hs1 : (olds.toArray ++ (flatC C i.size m).toArray).size = (n + m) * i.size := by simp [hol, flatC_len, Nat.add_mul]
            rw [Array.getElem?_append_left (by rw [hs1]; exact hlt)]
            by_cases hkn : k < n
            · have := lt_mul_of hkn hj
              rw [Array.getElem?_append_left (by simp [hol]; exact this), if_pos hkn, List.getElem?_toArray]
              exact hod k j hkn hj
            · have h1 : n * i.size ≤ k * i.size := Nat.mul_le_mul_right _ (by omega)
              rw [Array.getElem?_append_right (by simp [hol]; omega), if_neg hkn, List.getElem?_toArray, List.size_toArray, hol]
              have : k * i.size + j - n * i.size = (k - n) * i.size + j := by rw [Nat.sub_mul]; omega
              rw [this]
              exact flatC_get C (by omega) hj
          refine .seqR (.tmp d) (n + m) _ w.heap.size _ e _ i.size (fun k j => if k < n then D k j else C (k - n) j) (by simp [Ctx.fresh, hN]) hG.new c1 ?_ hge hcm (fun k => ?_) (fun off => ?_) hget (fun k j p hk hp => ?_)
          · simp only [Array.size_append, List.size_toArray, hol, flatC_len, zeroCells_size, hzc, ← Nat.add_mul]
            congr 1; omega
          · unfold app
            split
            · exact hfl.1 k ‹_›
            · split
              · rw [hgs _ (by omega), e2]
              · exact hfl.2
          · constructor
            · rintro (hh | ⟨_, hh⟩)
              · exact absurd hh ((hF _ (by rw [hN]; exact Nat.le_refl _)).2 off)
              · exact hh
            · exact fun hh => .inr ⟨hN.symm, hh⟩
          · unfold app at hp
            by_cases hkn : k < n
            · rw [if_pos hkn] at hp ⊢
              exact (hfp k j p hkn hp).stab hS.R
            · rw [if_neg hkn, if_pos hk] at hp
              rw [if_neg hkn]
              exact (hgp _ _ _ (by omega) hp).stab hS.R
        -- nothing is appended
        have none_ : m = 0 → ∀ (n : Nat) (f : Nat → List PV) (A : Option Addr) (cap : Nat), evT st.tmps s = .seqR n f ∨ (n = 0 ∧ evT st.tmps s = .nil f) → a.eval s = .slice A n cap → n ≤ cap →
            ∃ X' V W, (Builtin.append_ #[t, t] ty #[a.eval s, .slice B m c]).run P w = .ok V W ∧ Inv X0 X' ((Eff.mk (.seqR (n + m) (app n f m g)) (tkOf s) []).on dst st) (a.put dst V) W := by
          intro hm n f A cap hs hV hn
          subst hm
          have hrun := run_append_none (P := P) (w := w) (u := t) (ty := ty) hu hi A B n cap c hn
          rw [← hV] at hrun
          rw [Nat.add_zero]
          have hcon : ∀ (Y : Ctx) (π : Option Pos) (V : Value), VA Y π (.seqR n f) V → VA Y π (.seqR n (app n f 0 g)) V := fun Y π V hh =>
            hh.seqR_congr (fun i hi => by unfold app; rw [if_pos hi]) (fun i hi => ⟨n, by unfold app; rw [if_neg (by omega), if_neg (by omega)]⟩)
          cases s with
          | tmp q =>
            have hwk : ∀ (Y : Ctx) (π : Option Pos), VA Y π (st.tmps.getD q dead) (a.tmps.getD q undef) → VA Y π (.seqR n (app n f 0 g)) (a.tmps.getD q undef) := by
              intro Y π hh
              refine hcon Y π _ ?_
              rcases hs with hs | ⟨rfl, hs⟩
              · have : st.tmps.getD q dead = .seqR n f := hs
                rwa [this] at hh
              · have : st.tmps.getD q dead = .nil f := hs
                rw [this] at hh
                generalize a.tmps.getD q undef = V at hh ⊢
                cases hh
                exact .seqR0 _ _ _
            obtain ⟨X', hI⟩ := h.move q dst (.seqR n (app n f 0 g)) hwk
            exact ⟨X', _, _, hrun, hI⟩
          | const v =>
            have hv := VA.ofConst (X := X) v
            have hV' : v = .slice A n cap := hV
            subst hV'
            have hz0 : n = 0 ∧ cap = 0 := by
              rcases hs with hs | ⟨rfl, hs⟩
              · exfalso
                have hs : ofConst (.slice A n cap) = .seqR n f := hs
                unfold ofConst at hs
                split at hs <;> cases hs
              · have hs : ofConst (.slice A 0 cap) = .nil f := hs
                unfold ofConst at hs
                split at hs <;> first | (cases hs; done) | skip
                rename_i hh
                cases hh
                exact ⟨rfl, rfl⟩
            obtain ⟨rfl, rfl⟩ := hz0
            exact ⟨X, _, _, hrun, h.put dst fun d hd => .seqR0 _ _ _⟩
          | global q => rcases hs with hs | ⟨_, hs⟩ <;> cases hs
          | func q => rcases hs with hs | ⟨_, hs⟩ <;> cases hs
        -- a slice without room
        have zero_ : ∀ (f : Nat → List PV) (A : Option Addr), (f 0).length = i.size → (g 0).length = i.size → m * i.bytes ≤ reach → evT st.tmps s = .seqR 0 f ∨ evT st.tmps s = .nil f → a.eval s = .slice A 0 0 →
            ∃ X' V W, (Builtin.append_ #[t, t] ty #[a.eval s, .slice B m c]).run P w = .ok V W ∧ Inv X0 X' ((Eff.mk (.seqR (0 + m) (app 0 f m g)) (tkOf s) []).on dst st) (a.put dst V) W := by
          intro f A hfl hg0 hb hs hV
          by_cases hm : m = 0
          · exact none_ hm 0 f A 0 (hs.imp id fun hh => ⟨rfl, hh⟩) hV (Nat.le_refl _)
          · have hm : 0 < m := by omega
            obtain ⟨b, o, e1, e2, hn1, hn2⟩ := news hm hg0
            subst e1
            have hb' : m * i.bytes ≤ 140737488355328 := by unfold reach at hb; omega
            have hm63 : (m : Int) ≤ 9223372036854775807 := by
              have := Nat.mul_le_mul_left m c2
              omega
            cases A with
            | none =>
              have hrun := run_append_nil (P := P) w t ty e i Z hu hi hZ ⟨b, o, none⟩ m c (flatC C i.size m) (flatC_len _ _ _) hn1 hm hm63 (by omega)
              rw [← hV] at hrun
              obtain ⟨X', hI⟩ := grown 0 0 f [] (fun _ _ => undef) (Nat.le_refl _) (by omega) ⟨fun k hk => absurd hk (Nat.not_lt_zero k), hfl⟩ hg0 (by simpa using hb) (by simp) (fun k j hk => absurd hk (Nat.not_lt_zero k)) (fun k j p hk => absurd hk (Nat.not_lt_zero k)) _ _ rfl rfl
              refine ⟨X', _, _, hrun, ?_⟩
              simpa using hI
            | some A =>
              have hrun := run_append_grow (P := P) w t ty e i Z hu hi hZ A 0 0 [] (by simp) (fun j v hj => by cases hj) ⟨b, o, none⟩ m c (flatC C i.size m) (flatC_len _ _ _) hn1 (by omega) (by omega) (growslice_fits (by omega) (by simpa using hb'))
              rw [← hV] at hrun
              obtain ⟨X', hI⟩ := grown 0 0 f [] (fun _ _ => undef) (Nat.le_refl _) (by omega) ⟨fun k hk => absurd hk (Nat.not_lt_zero k), hfl⟩ hg0 (by simpa using hb) (by simp) (fun k j hk => absurd hk (Nat.not_lt_zero k)) (fun k j p hk => absurd hk (Nat.not_lt_zero k)) _ _ rfl rfl
              exact ⟨X', _, _, hrun, hI⟩
        split at hk
        · rename_i n f hs
          obtain ⟨hc, hk⟩ := need_some hk
          obtain ⟨hbb, hk⟩ := need_some hk
          simp only [Bool.and_eq_true] at hc
          have d1 := Nat.eq_of_beq_eq_true hc.1
          have d2 := Nat.eq_of_beq_eq_true hc.2
          have hbb := Nat.le_of_ble_eq_true hbb
          cases hk
          cases s with
          | tmp q =>
            have hv := h.tmp q
            have hs' : st.tmps.getD q dead = .seqR n f := hs
            rw [hs'] at hv
            have hV : a.eval (.tmp q) = a.tmps.getD q undef := rfl
            generalize a.tmps.getD q undef = Vs at hv hV
            cases hv with
            | seqR0 _ _ A =>
              have := zero_ f A d1 d2 (by simpa using hbb) (.inl hs) hV
              simpa using this
            | seqR p n f b0 cap e' cur sz0 D ho hb hsz hcur hn hm hs0 hR hC hh =>
              have hszz : sz0 = i.size := (hs0 n).symm.trans d1
              subst hszz
              by_cases hm0 : m = 0
              · exact none_ hm0 n f _ cap (.inl hs) hV hn
              · have hmp : 0 < m := by omega
                obtain ⟨b, o, e1, e2, hn1, hn2⟩ := news hmp d2
                subst e1
                have hb0 : w.heap[b0]? = some (.cells cur e' (0, 0)) := by rw [← hw]; exact hb
                by_cases hroom : n + m ≤ cap
                · have hfit : n * i.size + (flatC C i.size m).length ≤ cur.size := by
                    rw [flatC_len, hcur, ← Nat.add_mul]; exact Nat.mul_le_mul_right _ hroom
                  have hrun := run_append_room' (P := P) (w := w) (ty := ty) (c := c) hu hi hb0 (flatC_len C i.size m) hn1 hn2 hroom hfit
                  rw [← hV] at hrun
                  have hns : n * i.size ≤ cur.size := by rw [hcur]; exact Nat.mul_le_mul_right _ hn
                  have hspl : cur.toList.take (n * i.size) ++ flatC C i.size m ++ cur.toList.drop (n * i.size + (flatC C i.size m).length) = splice cur.toList (n * i.size) (flatC C i.size m) := rfl
                  have hsl : n * i.size + (flatC C i.size m).length ≤ cur.toList.length := by rw [Array.length_toList]; exact hfit
                  rw [hspl] at hrun
                  have hnew : ∀ k : Nat, ((splice cur.toList (n * i.size) (flatC C i.size m)).toArray)[k]? = if n * i.size ≤ k ∧ k < (n + m) * i.size then (flatC C i.size m)[k - n * i.size]? else cur[k]? := by
                    intro k
                    rw [List.getElem?_toArray, splice_get hsl, flatC_len, Nat.add_mul]
                    congr 1
                    exact Array.getElem?_toList
                  have hI := h.extend (d := dst.getD 0) ho hR hb0 (new := (splice cur.toList (n * i.size) (flatC C i.size m)).toArray) (by rw [List.size_toArray, splice_len _ _ _ hsl, Array.length_toList]) (fun k hk => by rw [hnew, if_neg (by omega)]) ((n + m) * i.size) (Nat.mul_le_mul_right _ (by omega))
                  refine ⟨_, _, _, hrun, hI.put dst fun d hd => ?_⟩
                  subst hd
                  have hgs' : (w.setRow b0 (splice cur.toList (n * i.size) (flatC C i.size m)).toArray).heap[b0]? = some (.cells (splice cur.toList (n * i.size) (flatC C i.size m)).toArray e' (0, 0)) := setRow_heap w b0 cur _ e' (0, 0) hb0
                  have hS : Stab X (X.extend (w.setRow b0 (splice cur.toList (n * i.size) (flatC C i.size m)).toArray) b0 ((n + m) * i.size) (.tmp d)) := by
                    refine ⟨fun k off hh => ⟨.inl hh, ?_⟩, fun _ hh => ⟨hh, rfl, rfl, rfl⟩⟩
                    by_cases e1 : k = b0
                    · subst e1
                      show (w.setRow k _).cell? _ = _
                      rw [cellAt hgs', cellAt hb, hnew, if_neg (by have := (hR off).1 hh; omega)]
                    · show (w.setRow b0 _).cell? _ = _
                      rw [← hw]
                      exact World.cell?_of_block (w := X.w) (a := ⟨k, off, none⟩) (setRow_other X.w b0 k _ e1)
                  refine .seqR (.tmp d) (n + m) _ b0 cap e' _ i.size (fun k j => if k < n then D k j else C (k - n) j) (by simp [Ctx.extend]) hgs' hsz ?_ hroom hm (fun k => ?_) (fun off => ?_) (fun k j hk hj => ?_) (fun k j p hk hp => ?_)
                  · rw [List.size_toArray, splice_len _ _ _ hsl, Array.length_toList]; exact hcur
                  · unfold app
                    split
                    · exact hs0 k
                    · split
                      · rw [hgs _ (by omega), e2]
                      · exact d1
                  · have hmul : n * i.size ≤ (n + m) * i.size := Nat.mul_le_mul_right _ (by omega)
                    constructor
                    · rintro (hh | ⟨_, hh⟩)
                      · have := (hR off).1 hh; omega
                      · exact hh
                    · exact fun hh => .inr ⟨rfl, hh⟩
                  · have hlt := lt_mul_of hk hj
                    rw [hnew]
                    by_cases hkn : k < n
                    · have := lt_mul_of hkn hj
                      rw [if_neg (by omega), if_pos hkn]
                      exact hC k j hkn hj
                    · have h1 : n * i.size ≤ k * i.size := Nat.mul_le_mul_right _ (by omega)
                      rw [if_pos (by omega), if_neg hkn, show k * i.size + j - n * i.size = (k - n) * i.size + j by rw [Nat.sub_mul]; omega]
                      exact flatC_get C (by omega) hj
                  · unfold app at hp
                    by_cases hkn : k < n
                    · rw [if_pos hkn] at hp ⊢
                      exact (hh k j p hkn hp).stab hS.R
                    · rw [if_neg hkn, if_pos hk] at hp
                      rw [if_neg hkn]
                      exact (hgp _ _ _ (by omega) hp).stab hS.R
                · have hb' : (n + m) * i.bytes ≤ 140737488355328 := by unfold reach at hbb; omega
                  have h63 : ((n + m : Nat) : Int) ≤ 9223372036854775807 := by
                    have := Nat.mul_le_mul_left (n + m) c2
                    omega
                  have hD : ∀ (j : Nat) (v : Value), (flatC D i.size n)[j]? = some v → w.cell? ((⟨b0, 0, none⟩ : Addr).add j) = some v := by
                    intro j v hj
                    obtain ⟨q1, q2, q3, q4, q5⟩ := flatC_inv D hj
                    rw [add_none, Nat.zero_add, cellAt hb0, q5, q4]
                    exact hC _ _ q2 q3
                  have hrun := run_append_grow (P := P) w t ty e i Z hu hi hZ ⟨b0, 0, none⟩ n cap (flatC D i.size n) (flatC_len _ _ _) hD ⟨b, o, none⟩ m c (flatC C i.size m) (flatC_len _ _ _) hn1 (by omega) h63 (growslice_fits (by omega) hb')
                  rw [← hV] at hrun
                  obtain ⟨X', hI⟩ := grown n cap f (flatC D i.size n) D hn (by omega) ⟨fun k _ => hs0 k, d1⟩ d2 hbb (flatC_len _ _ _) (fun k j hk hj => flatC_get D hk hj) hh _ _ rfl rfl
                  exact ⟨X', _, _, hrun, hI⟩
          | const v => exfalso; have hs : ofConst v = .seqR n f := hs; unfold ofConst at hs; split at hs <;> cases hs
          | global q => cases hs
          | func q => cases hs
        · rename_i f hs
          obtain ⟨hc, hk⟩ := need_some hk
          obtain ⟨hbb, hk⟩ := need_some hk
          simp only [Bool.and_eq_true] at hc
          have d1 := Nat.eq_of_beq_eq_true hc.1
          have d2 := Nat.eq_of_beq_eq_true hc.2
          have hbb := Nat.le_of_ble_eq_true hbb
          cases hk
          have hA : ∃ A, a.eval s = .slice A 0 0 := by
            have hv := h.rho s
            unfold rhoOf at hv
            rw [hs] at hv
            generalize a.eval s = V at hv ⊢
            cases hv
            exact ⟨_, rfl⟩
          obtain ⟨A, hA⟩ := hA
          have := zero_ f A d1 d2 hbb (.inr hs) hA
          simpa using this
        · cases hk
    · cases hk
  · cases hk
end
end Go.Am
