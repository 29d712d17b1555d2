/- The abstract machine is sound, operation by operation: stores, slice literals, appends. -/
import Derived.Test.YtldkmmnffjdliaaAmWrite
namespace Go.Am
set_option autoImplicit false
set_option linter.unusedVariables false
set_option linter.unusedSimpArgs false

section
variable {P : Program} {X0 X : Ctx} {st : St} {a : Act} {w W : World}

/-! ### slice literals -/
theorem litSeq_lt (z : Nat → List PV) : ∀ (l : List (List PV)) (i : Nat) (c : List PV), l[i]? = some c → litSeq z l i = c
  | c :: l, 0, _, h => by cases h; rfl
  | c :: l, i + 1, d, h => litSeq_lt z l i d h
  | [], _, _, h => by cases h
theorem litSeq_ge (z : Nat → List PV) : ∀ (l : List (List PV)) (i : Nat), l.length ≤ i → litSeq z l i = z 0
  | [], _, _ => rfl
  | c :: l, 0, h => by simp at h
  | c :: l, i + 1, h => litSeq_ge z l i (by simpa using h)
theorem chunk_len (sz : Nat) : ∀ (n : Nat) (cs : List AV), (chunk sz cs n).length = n
  | 0, _ => rfl
  | n + 1, cs => by simp [chunk, chunk_len sz n]
theorem chunk_get (sz : Nat) : ∀ (n : Nat) (cs : List AV) (i : Nat), i < n → (chunk sz cs n)[i]? = some ((Am.part cs (i * sz) sz).map AV.toPV)
  | 0, _, i, h => absurd h (Nat.not_lt_zero i)
  | n + 1, cs, 0, _ => by simp [chunk, Am.part]
  | n + 1, cs, i + 1, h => by
    simp only [chunk, List.getElem?_cons_succ]
    rw [chunk_get sz n (cs.drop sz) i (by omega)]
    simp only [Am.part, List.drop_drop]
    rw [show sz + i * sz = (i + 1) * sz by rw [Nat.add_mul]; omega]

theorem fillA_len {pl : Nat → Option (Nat × Nat)} : ∀ {parts : List (Nat × AV)} {cells res : List AV}, fillA pl cells parts = some res → res.length = cells.length
  | [], _, _, h => by cases h; rfl
  | (i, v) :: rest, cells, res, h => by
    simp only [fillA] at h
    split at h
    · cases h
    · rename_i off size hpl
      obtain ⟨h1, h2⟩ := bif_some h
      simp only [Bool.and_eq_true] at h1
      have c1 : v.cells.length = size := Nat.eq_of_beq_eq_true h1.1.1
      have c3 := Nat.le_of_ble_eq_true h1.2
      rw [fillA_len h2, splice_len _ _ _ (by omega)]
theorem flat_get {α : Type} (xs : List α) (h0 : 0 < xs.length) : ∀ (n k : Nat), k < n * xs.length → ((List.replicate n xs).flatten)[k]? = xs[k % xs.length]?
  | 0, k, h => by omega
  | n + 1, k, h => by
    rw [List.replicate_succ, List.flatten_cons]
    by_cases hk : k < xs.length
    · rw [List.getElem?_append_left hk, Nat.mod_eq_of_lt hk]
    · rw [List.getElem?_append_right (by omega), flat_get xs h0 n (k - xs.length) (by rw [Nat.add_mul] at h; omega)]
      congr 1
      exact (Nat.mod_eq_sub_mod (by omega)).symm

theorem buildSlice_sound (h : Inv X0 X st a w) {ρ : Operand → AV} (hρ : ∀ x, VA X none (ρ x) (a.eval x)) (hb : ∀ x, (ρ x).borrow = ρ x) {t : TypeId} {len : Nat} {parts : Array (Nat × Operand)} {v : AV} (hv : buildSliceV P ρ t len parts.toList = some v) (dst : Option Nat) :
    ∃ X' V W, (Instr.buildSlice t len (parts.map fun (i, x) => (i, a.eval x))).run P w = .ok V W ∧ Inv X0 X' ((Eff.mk v none []).on dst st) (a.put dst V) W := by
  have hw := h.hw
  unfold buildSliceV at hv
  split at hv
  · rename_i e hu
    split at hv
    · rename_i n z hn hz
      obtain ⟨hc, hv⟩ := bif_some hv
      simp only [Bool.and_eq_true] at hc
      obtain ⟨⟨c1, c2⟩, c3⟩ := hc
      have c1 := Nat.le_of_ble_eq_true c1
      have c2 := Nat.le_of_ble_eq_true c2
      have c3 := Nat.eq_of_beq_eq_true c3
      obtain ⟨cs, hcs, hv⟩ := Option.bind_eq_some_iff.1 hv
      obtain ⟨hall, hv⟩ := bif_some hv
      cases hv
      obtain ⟨it, Z, hi, hZ, hf⟩ := zeroOf_sound hz
      have hzz : z = zpv P depth e := by
        unfold zeroOf at hz
        rw [hi] at hz
        simp only [hZ] at hz
        split at hz
        · cases hz; rfl
        · cases hz
      have hin : it.size = n := by
        unfold sizeT at hn
        rw [hi] at hn
        split at hn
        · rename_i h1 h2; cases h2; cases hn; rfl
        · cases hn
      subst hin
      obtain ⟨p1, p2⟩ := parts_sound (P := P) hρ hb (fun _ => e) parts
      have hzc : Z.cells.size = it.size := by have := (zfit_sound X hf).1; rw [Array.length_toList] at this; omega
      by_cases hlen : len = 0
      · subst hlen
        have hpe : parts.toList = [] ∧ cs = [] := by
          cases hp : parts.toList with
          | nil => rw [hp] at hcs; cases hcs; exact ⟨rfl, rfl⟩
          | cons p ps =>
            rw [hp] at hcs
            simp only [List.map_cons, fillA, List.replicate_zero, List.flatten_nil, List.length_nil] at hcs
            obtain ⟨hc, _⟩ := bif_some hcs
            simp only [Bool.and_eq_true] at hc
            have := Nat.le_of_ble_eq_true hc.2
            omega
        obtain ⟨hp, rfl⟩ := hpe
        have hp' : parts = #[] := by cases parts; simp at hp; rw [hp]
        subst hp'
        have hrun : (Instr.buildSlice t 0 ((#[] : Array (Nat × Operand)).map fun (i, x) => (i, a.eval x))).run P w = .ok (.slice (some ⟨w.heap.size, 0, none⟩) 0 0) (w.alloc (.cells #[] e)) := by
          simp [Instr.buildSlice, run_underlying hu, sizeOf, typeInfo, hi, Instr.fill, newRow]
          congr 2
          exact Array.eq_empty_of_size_eq_zero (by simp)
        have hI := h.fresh' (Grew.alloc w (.cells #[] e)) (fun _ => False) none
        exact ⟨_, _, _, hrun, hI.put dst fun d hd => .seqR0 _ _ _⟩
      · have hpos : ¬ len * it.size = 0 := by
          have := Nat.mul_le_mul (show 1 ≤ len by omega) c1
          omega
        have hr0 : Rows X ((List.replicate len (z.map zav)).flatten) ((Array.range (len * it.size)).map (Z.cells[· % Z.cells.size]!)).toList := by
          have hfl : ((List.replicate len (z.map zav)).flatten).length = len * it.size := by simp [c3]
          refine ⟨by simp [c3], fun k v V hk hV => ?_⟩
          have hlt : k < len * it.size := by rw [← hfl]; exact (List.getElem?_eq_some_iff.1 hk).1
          have hsz : 0 < it.size := c1
          have e1 : k = k / it.size * it.size + k % it.size := by rw [Nat.mul_comm]; exact (Nat.div_add_mod k it.size).symm
          have hm : k % it.size < it.size := Nat.mod_lt _ hsz
          rw [Array.getElem?_toList, e1, mod_get hzc hm (by rw [← e1]; exact hlt), ← Array.getElem?_toList] at hV
          have hk' : ((List.replicate len (z.map zav)).flatten)[k]? = (z.map zav)[k % it.size]? := by
            have hd : k / it.size < len := Nat.div_lt_of_lt_mul (by rw [Nat.mul_comm]; exact hlt)
            have := flat_get (z.map zav) (by simpa [c3] using hsz) len k (by simpa [c3] using hlt)
            simpa [c3] using this
          rw [hk'] at hk
          rw [List.getElem?_map] at hk
          cases hp : z[k % it.size]? with
          | none => rw [hp] at hk; cases hk
          | some p => rw [hp] at hk; cases hk; exact ((zfit_sound X hf).2 _ p V hp hV none).1
        obtain ⟨Res, hR, hrow⟩ := fill_sound (X := X) hcs p1 p2 hr0
        have hrun := run_buildSlice (P := P) w t e len (parts.map fun (i, x) => (i, a.eval x)) Res it Z hu hi hZ (by omega) hpos (by simpa using hR)
        have hcl : cs.length = len * it.size := by
          have := fillA_len hcs
          simpa [c3] using this
        have hRs : Res.size = len * it.size := by have := hrow.1; rw [Array.length_toList] at this; omega
        have hG := Grew.alloc w (.cells Res e)
        have hI := h.fresh' hG (fun off => off < len * it.size) (dst.map .tmp)
        have hmax : len ≤ maxLen := by
          have := Nat.mul_le_mul_left len c1
          unfold maxLen; omega
        refine ⟨_, _, _, hrun, hI.put dst fun d hd => ?_⟩
        subst hd
        have hF := h.fresh
        subst hw
        have hS : Stab X (X.fresh (X.w.alloc (.cells Res e)) (fun off => off < len * it.size) ((some d).map .tmp)) := Stab.fresh hF hG
        refine .seqR (.tmp d) len _ X.w.heap.size len e Res it.size (fun i j => Res.getD (i * it.size + j) undef) (by simp [Ctx.fresh]) hG.new c1 hRs (Nat.le_refl _) hmax (fun i => ?_) (fun off => ?_) (fun i j hi' hj => ?_) (fun i j p hi' hp => ?_)
        · by_cases hil : i < len
          · rw [litSeq_lt _ _ _ _ (chunk_get it.size len cs i hil)]
            have := Nat.mul_le_mul_right it.size (show i + 1 ≤ len from hil)
            rw [Nat.add_mul, Nat.one_mul] at this
            simp [Am.part, hcl]; omega
          · rw [litSeq_ge _ _ _ (by rw [chunk_len]; omega)]
            simp only [zelem, hu]
            rw [← hzz, c3]
        · constructor
          · rintro (hh | ⟨_, hh⟩)
            · exact absurd hh ((hF _ (Nat.le_refl _)).2 off)
            · exact hh
          · exact fun hh => .inr ⟨rfl, hh⟩
        · have hlt := lt_mul_of hi' hj
          simp [Array.getD, hRs, hlt]
        · rw [litSeq_lt _ _ _ _ (chunk_get it.size len cs i hi'), List.getElem?_map] at hp
          cases hc : (Am.part cs (i * it.size) it.size)[j]? with
          | none => rw [hc] at hp; cases hp
          | some u =>
            rw [hc] at hp
            cases hp
            obtain ⟨hj, hu'⟩ := part_get hc
            have hlt := lt_mul_of hi' hj
            have hV : Res.toList[i * it.size + j]? = some (Res.getD (i * it.size + j) undef) := by
              rw [Array.getElem?_toList]; simp [Array.getD, hRs, hlt]
            exact ((hrow.2 _ u _ hu' hV).stab hS fun p hp => by cases hp).pure (all_get hall hu')
    · cases hv
  · cases hv

/-! ### stores -/
/-- What some cells are to hold stands ready, its right given to where it goes. -/
theorem Inv.ready (h : Inv X0 X st a w) (t : TypeId) (y : Operand) (p : Nat → Pos) (hl : 1 ≤ (retype P t (evT st.tmps y)).cells.length) :
    ∃ X1, Inv X0 X1 { st with tmps := Am.dropRight st.tmps (tkOf y) } a w ∧ X1.φ = X.φ ∧ X1.dom = X.dom ∧ X1.sz = X.sz ∧ X1.len = X.len ∧ X1.w = X.w ∧ X1.R = X.R ∧ ((a.eval y).cells.toList).length = (retype P t (evT st.tmps y)).cells.length ∧
      ∀ (j : Nat) (v : AV) (V : Value), (retype P t (evT st.tmps y)).cells[j]? = some v → ((a.eval y).cells.toList)[j]? = some V → VA X1 (some (p j)) v V := by
  have plain : ∀ Y : Ctx, VA Y none (retype P t (evT st.tmps y)) (a.eval y) → (retype P t (evT st.tmps y)).borrow = retype P t (evT st.tmps y) →
      ((a.eval y).cells.toList).length = (retype P t (evT st.tmps y)).cells.length ∧ ∀ (j : Nat) (v : AV) (V : Value), (retype P t (evT st.tmps y)).cells[j]? = some v → ((a.eval y).cells.toList)[j]? = some V → VA Y (some (p j)) v V := by
    intro Y hv hb
    have := cells_rows hv hl hb
    exact ⟨this.1, fun j v V h1 h2 => (this.2 j v V h1 h2).any _⟩
  have keep := h.dropRight (tkOf y)
  cases y with
  | tmp s =>
    have hv := h.tmp s
    simp only [evT, Act.eval] at *
    generalize hx : st.tmps.getD s dead = v at *
    generalize a.tmps.getD s undef = V at *
    by_cases hsr : ∃ n f, v = .seqR n f
    · obtain ⟨n, f, rfl⟩ := hsr
      cases hv with
      | seqR0 f A =>
        refine ⟨X, keep, rfl, rfl, rfl, rfl, rfl, rfl, rfl, fun j u U hu hU => ?_⟩
        cases j with
        | zero => cases hu; cases hU; exact .seqR0 _ _ _
        | succ j => cases hu
      | seqR q n f g cap e cur sz C ho hb hsz hcur hn hm hs hR hC hh =>
        refine ⟨X.give g (p 0), h.giveTo ho (p 0), rfl, rfl, rfl, rfl, rfl, rfl, rfl, fun j u U hu hU => ?_⟩
        cases j with
        | zero => cases hu; cases hU; exact .seqR (p 0) n f g cap e cur sz C (by simp [Ctx.give]) hb hsz hcur hn hm hs hR hC hh
        | succ j => cases hu
    · have hb : v.borrow = v := by cases v <;> first | rfl | exact absurd ⟨_, _, rfl⟩ hsr
      have hn : VA X none v V := by have := hv.borrow none; rwa [hb] at this
      obtain ⟨q1, q2⟩ := plain X (hn.retype P t) (retype_borrow t v hb)
      exact ⟨X, keep, rfl, rfl, rfl, rfl, rfl, rfl, q1, q2⟩
  | const v =>
    have hb : (ofConst v).borrow = ofConst v := by unfold ofConst; split <;> rfl
    obtain ⟨q1, q2⟩ := plain X ((VA.ofConst v).retype P t) (retype_borrow t _ hb)
    exact ⟨X, keep, rfl, rfl, rfl, rfl, rfl, rfl, q1, q2⟩
  | global g => simp [evT, retype, AV.cells] at hl
  | func f =>
    obtain ⟨q1, q2⟩ := plain X ((VA.pv none _ _ (.fn f)).retype P t) rfl
    exact ⟨X, keep, rfl, rfl, rfl, rfl, rfl, rfl, q1, q2⟩

theorem store_run {t : TypeId} {g o : Nat} {V : Value} {n : Nat} {cur : Array Value} {e : TypeId} (hn : sizeT P t = some n) (hl : V.cells.size = n) (hg : w.heap[g]? = some (.cells cur e (0, 0))) (hle : o + n ≤ cur.size) (h1 : ∀ v ∈ V.cells.toList, v.oneCell' = true) :
    (Instr.storeAt t (.pointer (some ⟨g, o, none⟩)) V).run P w = .ok () (w.setRow g (splice cur.toList o V.cells.toList).toArray) := by
  have := run_storeCells_at (P := P) g o e V.cells.toList 0 cur w hg (by simpa [hl] using hle) h1
  simp only [Nat.add_zero] at this
  simp [Instr.storeAt, Instr.sureAddr, storeVar, sizeOf_run hn, hl, this, splice]

theorem store_sound (h : Inv X0 X st a w) {m : Nat} {t : TypeId} {x : AV} {Vx : Value} {y : Operand} {b : Nat} {B : Blk} (hx : VA X none x Vx) (hs : storeV P (st.heap.take m) t x (retype P t (evT st.tmps y)) = some (b, B)) :
    ∃ X' W, (Instr.storeAt t Vx (a.eval y)).run P w = .ok () W ∧ Inv X0 X' { tmps := Am.dropRight st.tmps (tkOf y), heap := st.heap.set b B } a W := by
  have hw := h.hw
  unfold storeV at hs
  split at hs
  · cases hs
  · rename_i n hn
    obtain ⟨hc, hs⟩ := bif_some hs
    simp only [Bool.and_eq_true] at hc
    obtain ⟨⟨c1, c2⟩, c3⟩ := hc
    have c1 := Nat.eq_of_beq_eq_true c1
    have c2 := Nat.le_of_ble_eq_true c2
    have hone : ∀ (Y : Ctx) (p : Nat → Pos), ((a.eval y).cells.toList).length = (retype P t (evT st.tmps y)).cells.length → (∀ (j : Nat) (v : AV) (V : Value), (retype P t (evT st.tmps y)).cells[j]? = some v → ((a.eval y).cells.toList)[j]? = some V → VA Y (some (p j)) v V) →
        ∀ v ∈ (a.eval y).cells.toList, v.oneCell' = true := by
      intro Y p hl hr v hv
      obtain ⟨j, hj⟩ := List.getElem?_of_mem hv
      have hlt : j < (retype P t (evT st.tmps y)).cells.length := by rw [← hl]; exact (List.getElem?_eq_some_iff.1 hj).1
      have hu := List.getElem?_eq_getElem hlt
      exact (hr j _ v hu hj).one (all_get c3 hu)
    split at hs
    · rename_i b' off _
      split at hs
      · rename_i cs hB
        obtain ⟨h1, hs⟩ := bif_some hs
        have h1 := Nat.le_of_ble_eq_true h1
        cases hs
        cases hx with | ptr _ _ _ hd => ?_
        obtain ⟨X1, hI, e1, e2, e3, e4, e5, e6, hl, hr⟩ := h.ready (P := P) t y (fun j => .cell b (off + j)) (by omega)
        have hd1 : X1.dom b := by rw [e2]; exact hd
        obtain ⟨_, cur, e, hb, hcur, hcr⟩ := hI.heap.blk b _ (getB_take hB (by simp))
        have hVs : (a.eval y).cells.size = n := by rw [Array.length_toList] at hl; omega
        have hb' : w.heap[X1.φ b]? = some (.cells cur e (0, 0)) := by rw [← hI.hw]; exact hb
        have hrun := store_run (P := P) (w := w) (g := X1.φ b) (o := off) hn hVs hb' (by omega) (hone X1 _ hl hr)
        have hoff : off + ((a.eval y).cells.toList).length ≤ cur.toList.length := by rw [Array.length_toList, Array.length_toList]; omega
        refine ⟨_, _, by rw [← e1]; exact hrun, hI.write (b := b) hd1 hb' (new := (splice cur.toList off (a.eval y).cells.toList).toArray) ?_ _ fun hS hL => ?_⟩
        · simp [splice_len _ _ _ hoff]
        · refine ⟨hd1, _, e, setRow_heap w _ cur _ e (0, 0) hb', ?_, fun j v V hv hV => ?_⟩
          · rw [List.size_toArray, splice_len _ _ _ hoff, splice_len _ _ _ (by simp; omega), Array.length_toList]; exact hcur
          · rw [List.getElem?_toArray, splice_get hoff] at hV
            rw [splice_get (by simp; omega)] at hv
            rw [List.length_map, c1] at hv
            rw [Array.length_toList, hVs] at hV
            split at hv
            · rename_i hj
              rw [if_pos hj] at hV
              rw [List.getElem?_map] at hv
              cases hu : (retype P t (evT st.tmps y)).cells[j - off]? with
              | none => rw [hu] at hv; cases hv
              | some u =>
                rw [hu] at hv
                cases hv
                have hva := hr _ u V hu hV
                rw [show off + (j - off) = j by omega] at hva
                exact ⟨(hva.stab hS fun p hp => hL p).norm, hva.one (all_get c3 hu)⟩
            · rename_i hj
              rw [if_neg hj] at hV
              have hVj : cur[j]? = some V := by rw [← Array.getElem?_toList]; exact hV
              exact ⟨(hcr j v V hv hVj).1.stab hS fun p hp => hL p, (hcr j v V hv hVj).2⟩
      · cases hs
    · rename_i b' i off _
      split at hs
      · rename_i sz len f hB
        obtain ⟨h1, hs⟩ := bif_some hs
        have h1 := Nat.le_of_ble_eq_true h1
        cases hs
        cases hx with | aptr _ _ _ _ hd hi => ?_
        obtain ⟨X1, hI, e1, e2, e3, e4, e5, e6, hl, hr⟩ := h.ready (P := P) t y (fun j => .acell b i (off + j)) (by omega)
        have hd1 : X1.dom b := by rw [e2]; exact hd
        obtain ⟨_, hsz, hln, hz, cur, e, hb, hcur, hf, hcr⟩ := hI.heap.blk b _ (getB_take hB (by simp))
        have hi' : i < len := by rw [← hln, e4]; exact hi
        have hVs : (a.eval y).cells.size = n := by rw [Array.length_toList] at hl; omega
        have hb' : w.heap[X1.φ b]? = some (.cells cur e (0, 0)) := by rw [← hI.hw]; exact hb
        have hend : (i + 1) * sz ≤ len * sz := Nat.mul_le_mul_right sz hi'
        rw [Nat.add_mul, Nat.one_mul] at hend
        have hrun := store_run (P := P) (w := w) (g := X1.φ b) (o := i * sz + off) hn hVs hb' (by omega) (hone X1 _ hl hr)
        have hoff : i * sz + off + ((a.eval y).cells.toList).length ≤ cur.toList.length := by rw [Array.length_toList, Array.length_toList]; omega
        have hfi := hf i hi'
        refine ⟨_, _, by rw [← e1, ← e3, hsz]; exact hrun, hI.write (b := b) hd1 hb' (new := (splice cur.toList (i * sz + off) (a.eval y).cells.toList).toArray) ?_ _ fun hS hL => ?_⟩
        · simp [splice_len _ _ _ hoff]
        · refine ⟨hd1, hsz, hln, hz, _, e, setRow_heap w _ cur _ e (0, 0) hb', ?_, fun k hk => ?_, fun k j v V hk hv hV => ?_⟩
          · rw [List.size_toArray, splice_len _ _ _ hoff, Array.length_toList]; exact hcur
          · by_cases hki : k = i
            · subst hki; simp only [upd, if_true]; rw [splice_len _ _ _ (by simp; omega)]; exact hf k hk
            · simp only [upd, if_neg hki]; exact hf k hk
          · rw [List.getElem?_toArray, splice_get hoff, Array.length_toList, hVs] at hV
            by_cases hki : k = i
            · subst hki
              simp only [upd, if_true] at hv
              rw [splice_get (by simp; omega), List.length_map, c1] at hv
              split at hv
              · rename_i hj
                rw [if_pos (by omega)] at hV
                rw [List.getElem?_map] at hv
                cases hu : (retype P t (evT st.tmps y)).cells[j - off]? with
                | none => rw [hu] at hv; cases hv
                | some u =>
                  rw [hu] at hv
                  cases hv
                  rw [show k * sz + j - (k * sz + off) = j - off by omega] at hV
                  have hva := hr _ u V hu hV
                  rw [show off + (j - off) = j by omega] at hva
                  exact ⟨(hva.stab hS fun p hp => hL p).flat (all_get c3 hu), hva.one (all_get c3 hu), flatB_flat⟩
              · rename_i hj
                rw [if_neg (by omega)] at hV
                have hVj : cur[k * sz + j]? = some V := by rw [← Array.getElem?_toList]; exact hV
                exact ⟨(hcr k j v V hk hv hVj).1.stab hS fun p hp => hL p, (hcr k j v V hk hv hVj).2⟩
            · simp only [upd, if_neg hki] at hv
              have hjs : j < sz := by rw [← hf k hk]; exact (List.getElem?_eq_some_iff.1 hv).1
              have hne : ¬ (i * sz + off ≤ k * sz + j ∧ k * sz + j < i * sz + off + n) := by
                rintro ⟨q1, q2⟩
                rcases Nat.lt_or_gt_of_ne hki with hlt | hgt
                · have := Nat.mul_le_mul_right sz (show k + 1 ≤ i from hlt)
                  rw [Nat.add_mul, Nat.one_mul] at this
                  omega
                · have := Nat.mul_le_mul_right sz (show i + 1 ≤ k from hgt)
                  rw [Nat.add_mul, Nat.one_mul] at this
                  omega
              rw [if_neg hne] at hV
              have hVj : cur[k * sz + j]? = some V := by rw [← Array.getElem?_toList]; exact hV
              exact ⟨(hcr k j v V hk hv hVj).1.stab hS fun p hp => hL p, (hcr k j v V hk hv hVj).2⟩
      · cases hs
    · cases hs
end
end Go.Am
