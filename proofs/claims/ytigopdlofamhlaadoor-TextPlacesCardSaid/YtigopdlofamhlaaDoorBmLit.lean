/- The abstract machine is sound, operation by operation: literals of slices. -/
import Derived.Test.YtigopdlofamhlaaDoorBmAlloc
namespace Go.Bm
set_option autoImplicit false
set_option linter.unusedVariables false
set_option linter.unusedSimpArgs false

section
variable {P : Program} {X0 X : Ctx} {st : St} {a : Act} {w W : World} {ok : Ob → Prop}

theorem litF_lt (z : List AV) : ∀ (l : List (List AV)) (i : Nat) (c : List AV), l[i]? = some c → litF z l i = c
  | [], i, c, h => by cases h
  | x :: l, 0, c, h => by cases h; rfl
  | x :: l, i + 1, c, h => litF_lt z l i c h
theorem chunk_len (sz : Nat) : ∀ (n : Nat) (cs : List AV), (chunk sz cs n).length = n
  | 0, cs => rfl
  | n + 1, cs => by simp [chunk, chunk_len sz n]
theorem chunk_get (sz : Nat) : ∀ (n : Nat) (cs : List AV) (i : Nat), i < n → (chunk sz cs n)[i]? = some (Bm.part cs (i * sz) sz)
  | 0, cs, i, h => by omega
  | n + 1, cs, 0, h => by simp [chunk, Bm.part]
  | n + 1, cs, i + 1, h => by
    simp only [chunk, List.getElem?_cons_succ]
    rw [chunk_get sz n (cs.drop sz) i (by omega)]
    simp only [Bm.part, List.drop_drop]
    congr 3
    rw [Nat.add_mul, Nat.one_mul, Nat.add_comm]
theorem fillA_len {pl : Nat → Option (Nat × Nat)} : ∀ {parts : List (Nat × AV)} {cells res : List AV}, fillA pl cells parts = some res → res.length = cells.length
  | [], cells, res, h => by cases h; rfl
  | (i, v) :: rest, cells, res, h => by
    simp only [fillA] at h
    split at h
    · cases h
    · obtain ⟨h1, h2⟩ := bif_some h
      simp only [Bool.and_eq_true] at h1
      obtain ⟨⟨c1, c2⟩, c3⟩ := h1
      have c1 := Nat.eq_of_beq_eq_true c1
      have c3 := Nat.le_of_ble_eq_true c3
      rw [fillA_len h2, splice_len _ _ _ (by omega)]
theorem flat_get {α : Type} (xs : List α) (h0 : 0 < xs.length) : ∀ (n k : Nat), k < n * xs.length → ((List.replicate n xs).flatten)[k]? = xs[k % xs.length]?
  | 0, k, h => by omega
  | n + 1, k, h => by
    rw [List.replicate_succ, List.flatten_cons]
    rcases Nat.lt_or_ge k xs.length with hlt | hge
    · rw [List.getElem?_append_left hlt, Nat.mod_eq_of_lt hlt]
    · rw [Nat.add_mul, Nat.one_mul] at h
      rw [List.getElem?_append_right hge, flat_get xs h0 n (k - xs.length) (by omega), Nat.mod_eq_sub_mod hge]

/-- The run of a literal. -/
theorem lit_run' {t e : TypeId} {n len : Nat} {z : List PV} {zf : PV → AV} (hzf : ∀ {Vs : List Value} {ps : List PV}, zfit Vs ps = true → ∀ (j : Nat) (p : PV) (V : Value), ps[j]? = some p → Vs[j]? = some V → VA X none (zf p) V) {parts : Array (Nat × Operand)} {vs : List (Nat × AV)} (p1 : vs.length = ((parts.map fun (i, x) => (i, a.eval x)).toList).length)
    (p2 : ∀ (j : Nat) (x : Nat × AV) (Y : Nat × Value), vs[j]? = some x → ((parts.map fun (i, x) => (i, a.eval x)).toList)[j]? = some Y → x.1 = Y.1 ∧ VA X none x.2 Y.2) (hu : P.underlying t = some (.slice e)) (hn : sizeT P e = some n) (hz : zeroOf P e = some z) (c1 : 1 ≤ n) (c2 : len * n ≤ 16777216) (c3 : z.length = n) {cs : List AV}
    (hcs : fillA (fun i => some (i * n, n)) ((List.replicate len (z.map zf)).flatten) vs = some cs) :
    ∃ Res : Array Value, (Instr.buildSlice t len (parts.map fun (i, x) => (i, a.eval x))).run P w = .ok (.slice (some ⟨w.heap.size, 0, none⟩) len len) (w.alloc (.cells Res e)) ∧ Rows X cs Res.toList ∧ cs.length = len * n := by
  obtain ⟨it, Z, hi, hZ, hf⟩ := zeroOf_sound hz
  have hin : it.size = n := by
    unfold sizeT at hn
    rw [hi] at hn
    split at hn
    · rename_i h1 h2; cases h2; cases hn; rfl
    · cases hn
  subst hin
  have hzc : Z.cells.size = it.size := by have := (zfit_sound X hf).1; rw [Array.length_toList] at this; omega
  have hcl : cs.length = len * it.size := by
    have := fillA_len hcs
    simpa [c3] using this
  by_cases hlen : len = 0
  · subst hlen
    have hpe : parts.toList = [] ∧ cs = [] := by
      cases vs with
      | nil =>
        cases hcs
        refine ⟨?_, rfl⟩
        have : parts.toList.length = 0 := by simpa using p1.symm
        exact List.length_eq_zero_iff.1 this
      | cons p ps =>
        obtain ⟨p0, pv⟩ := p
        simp only [fillA, List.replicate_zero, List.flatten_nil, List.length_nil] at hcs
        obtain ⟨hc, _⟩ := bif_some hcs
        simp only [Bool.and_eq_true] at hc
        have := Nat.le_of_ble_eq_true hc.2
        omega
    obtain ⟨hp, rfl⟩ := hpe
    have hp' : parts = #[] := by cases parts; simp at hp; rw [hp]
    subst hp'
    refine ⟨#[], ?_, ⟨rfl, fun j v V hv => by cases hv⟩, by simp⟩
    simp [Instr.buildSlice, run_underlying hu, sizeOf, typeInfo, hi, Instr.fill, newRow]
    congr 2
    exact Array.eq_empty_of_size_eq_zero (by simp)
  · have hpos : ¬ len * it.size = 0 := by
      have := Nat.mul_le_mul (show 1 ≤ len by omega) c1
      omega
    have hr0 : Rows X ((List.replicate len (z.map zf)).flatten) ((Array.range (len * it.size)).map (Z.cells[· % Z.cells.size]!)).toList := by
      have hfl : ((List.replicate len (z.map zf)).flatten).length = len * it.size := by simp [c3]
      refine ⟨by simp [c3], fun k v V hk hV => ?_⟩
      have hlt : k < len * it.size := by rw [← hfl]; exact (List.getElem?_eq_some_iff.1 hk).1
      have hsz : 0 < it.size := c1
      have e1 : k = k / it.size * it.size + k % it.size := by rw [Nat.mul_comm]; exact (Nat.div_add_mod k it.size).symm
      have hm : k % it.size < it.size := Nat.mod_lt _ hsz
      have hlt2 : k / it.size * it.size + k % it.size < len * it.size := by omega
      have hq := mod_get (zs := Z.cells) (sz := it.size) (i := k / it.size) (j := k % it.size) (n := len * it.size) hzc hm hlt2
      rw [← e1] at hq
      rw [Array.getElem?_toList, hq, ← Array.getElem?_toList] at hV
      have hk' : ((List.replicate len (z.map zf)).flatten)[k]? = (z.map zf)[k % it.size]? := by
        have hd : k / it.size < len := Nat.div_lt_of_lt_mul (by rw [Nat.mul_comm]; exact hlt)
        have := flat_get (z.map zf) (by simpa [c3] using hsz) len k (by simpa [c3] using hlt)
        simpa [c3] using this
      rw [hk'] at hk
      rw [List.getElem?_map] at hk
      cases hp : z[k % it.size]? with
      | none => rw [hp] at hk; cases hk
      | some p => rw [hp] at hk; cases hk; exact hzf hf _ p V hp hV
    obtain ⟨Res, hR, hrow⟩ := fill_sound (X := X) hcs p1 p2 hr0
    have hrun := run_buildSlice (P := P) w t e len (parts.map fun (i, x) => (i, a.eval x)) Res it Z hu hi hZ (by omega) hpos (by simpa using hR)
    exact ⟨Res, hrun, hrow, hcl⟩

/-- The run of a literal whose parts are told as they stand. -/
theorem lit_run {t e : TypeId} {n len : Nat} {z : List PV} {ρ : Operand → AV} (hρ : ∀ x, VA X none (ρ x) (a.eval x)) {parts : Array (Nat × Operand)} (hu : P.underlying t = some (.slice e)) (hn : sizeT P e = some n) (hz : zeroOf P e = some z) (c1 : 1 ≤ n) (c2 : len * n ≤ 16777216) (c3 : z.length = n) {cs : List AV}
    (hcs : fillA (fun i => some (i * n, n)) ((List.replicate len (z.map zav)).flatten) (parts.toList.map fun x => (x.1, retype P e (ρ x.2))) = some cs) :
    ∃ Res : Array Value, (Instr.buildSlice t len (parts.map fun (i, x) => (i, a.eval x))).run P w = .ok (.slice (some ⟨w.heap.size, 0, none⟩) len len) (w.alloc (.cells Res e)) ∧ Rows X cs Res.toList ∧ cs.length = len * n := by
  obtain ⟨p1, p2⟩ := parts_sound (P := P) hρ (fun _ => e) parts
  exact lit_run' (fun hf j p V hp hV => ((zfit_sound X hf).2 _ p V hp hV none).1) p1 p2 hu hn hz c1 c2 c3 hcs

theorem rowCell_one {v : AV} (h : rowCell v = true) : v.oneC = true := by
  cases v <;> first | rfl | cases h
theorem split_eq {i j i' j' n : Nat} (hj : j < n) (hj' : j' < n) (h : i * n + j = i' * n + j') : i = i' ∧ j = j' := by
  have h1 : (i * n + j) / n = i := by rw [Nat.mul_comm, Nat.mul_add_div (by omega), Nat.div_eq_of_lt hj, Nat.add_zero]
  have h2 : (i' * n + j') / n = i' := by rw [Nat.mul_comm, Nat.mul_add_div (by omega), Nat.div_eq_of_lt hj', Nat.add_zero]
  have : i = i' := by rw [← h1, ← h2, h]
  subst this
  exact ⟨rfl, by omega⟩

theorem buildSliceE_sound (h : Inv X0 X st a w) {ρ : Operand → AV} (hρ : ∀ x, VA X none (ρ x) (a.eval x)) {id : Nat} {t : TypeId} {len : Nat} {parts : Array (Nat × Operand)} {e : Eff} (he : (buildSliceE P ρ id t len parts.toList).Gives ok (getB st.heap) e) (dst : Option Nat) :
    ∃ X' V W, (Instr.buildSlice t len (parts.map fun (i, x) => (i, a.eval x))).run P w = .ok V W ∧ Inv X0 X' (e.on dst st) (a.put dst V) W := by
  have hw := h.hw
  unfold buildSliceE at he
  split at he
  · rename_i et hu
    split at he
    · rename_i n z hn hz
      obtain ⟨hc, he1⟩ := gives_chk he
      simp only [Bool.and_eq_true] at hc
      obtain ⟨⟨c1, c2⟩, c3⟩ := hc
      have c1 := Nat.le_of_ble_eq_true c1
      have c2 := Nat.le_of_ble_eq_true c2
      have c3 := Nat.eq_of_beq_eq_true c3
      obtain ⟨cs, hcs, he2⟩ := gives_opt he1
      obtain ⟨hg, he3⟩ := freshE_gives _ _ he2
      have hg := gone_get (hg 0 (by omega))
      rw [Nat.add_zero] at hg
      obtain ⟨Res, hrun, hrow, hcl⟩ := lit_run (w := w) hρ hu hn hz c1 c2 c3 hcs
      have hRs : Res.size = len * n := by have := hrow.1; rw [Array.length_toList] at this; omega
      refine (?_ : ∃ X' , Inv X0 X' (e.on dst st) (a.put dst (.slice (some ⟨w.heap.size, 0, none⟩) len len)) (w.alloc (.cells Res et))).elim fun X' hI => ⟨X', _, _, hrun, hI⟩
      have hG := Grew.alloc w (.cells Res et)
      have hlen0 : ∀ k, k < len * n → 0 < len := fun k hk => by
        rcases Nat.eq_zero_or_pos len with h0 | h0
        · rw [h0] at hk; omega
        · exact h0
      split at he3
      · rename_i hall
        obtain ⟨r, g1, g2⟩ := gives_bind he3
        obtain ⟨g3, g4⟩ := gives_chk g2
        cases g4
        have hone : ∀ (j : Nat) (v : AV) (V : Value), cs[j]? = some v → Res.toList[j]? = some V → VA X none v V ∧ V.oneCell' = true := fun j v V hv hV => ⟨hrow.2 j v V hv hV, (hrow.2 j v V hv hV).one (rowCell_one (all_get hall hv))⟩
        obtain ⟨k1, k2, T, og, k3, k4, k5⟩ := ownsE_sound h.heap (B := .gone) (x := ⟨false, 0, 0, fun _ => []⟩) cs Res.toList [] 0 r (fun j sz n f e => by cases e) hrow.1 hone g1
        have hnd := noDup_nodup g3
        have hr1 : r.1.length = len * n := by rw [k1, hcl]
        have hfget : ∀ i, i < len → litF (zrows z) (chunk n r.1 len) i = Bm.part r.1 (i * n) n := fun i hi => litF_lt _ _ _ _ (chunk_get n len r.1 i hi)
        have hflen : ∀ i, i < len → (Bm.part r.1 (i * n) n).length = n := fun i hi => by
          have := Nat.mul_le_mul_right n (show i + 1 ≤ len from hi)
          rw [Nat.add_mul, Nat.one_mul] at this
          simp [Bm.part, hr1]; omega
        refine h.newRow hg hG (sz := n) (n := len) (room := len * n) (f := litF (zrows z) (chunk n r.1 len)) (T := fun i j σ => if i < len ∧ j < n then T (i * n + j) σ else none) (org := fun i j => if i < len ∧ j < n then og (i * n + j) else none) (tk := r.2) c1 (Nat.le_refl _) (by omega) (fun i hi => by rw [hfget i hi]; exact hflen i hi)
          (fun i j v hi hv => ?_) (fun i j hn' σ => ?_) (fun i j κ hκ => ?_) (fun i j i' j' c κ κ' σ σ' e1 e2 e3 => ?_) (fun c hc => ⟨(k2 c hc).1, (k2 c hc).2⟩) rfl (fun c hc => List.mem_map.2 ⟨c, hc, rfl⟩) dst (fun Y hY => ?_)
        · rw [hfget i hi] at hv
          obtain ⟨hj, hv⟩ := part_get hv
          have hlt := lt_mul_of hi hj
          have hV : Res[i * n + j]? = some (Res[i * n + j]'(by omega)) := Array.getElem?_eq_getElem _
          refine ⟨_, hV, ?_⟩
          have e1 : (fun σ => if i < len ∧ j < n then T (i * n + j) σ else none) = T (i * n + j) := by funext σ; exact if_pos ⟨hi, hj⟩
          rw [e1, if_pos ⟨hi, hj⟩]
          exact k3 _ v _ hv (by rw [Array.getElem?_toList]; exact hV) i j (.inl rfl)
        · by_cases hq : i < len ∧ j < n
          · exfalso
            have := hn' hq.1
            rw [hfget i hq.1, List.getElem?_eq_none_iff, hflen i hq.1] at this
            omega
          · exact if_neg hq
        · split at hκ
          · rcases k4 _ κ hκ with ⟨_, q2, q3⟩ | ⟨_, q⟩
            · exact ⟨q2, q3⟩
            · exact absurd rfl q
          · cases hκ
        · split at e1
          · rename_i hq
            split at e2
            · rename_i hq'
              have a1 : κ = [] := by
                rcases k4 _ _ e1 with ⟨p, _⟩ | ⟨_, q⟩
                · exact p
                · exact absurd rfl q
              have a2 : κ' = [] := by
                rcases k4 _ _ e2 with ⟨p, _⟩ | ⟨_, q⟩
                · exact p
                · exact absurd rfl q
              subst a1 a2
              have := split_eq hq.2 hq'.2 (k5 hnd _ _ _ e1 e2)
              exact ⟨this.1, this.2, by simpa using e3⟩
            · cases e2
          · cases e1
        · exact .ms none id [] 0 len _ len _ hY (Nat.le_refl _) (by simp only; omega) fun _ => ⟨by simp, by rw [Nat.zero_add]; exact Nat.le_refl _⟩
      · obtain ⟨hall, g4⟩ := gives_chk he3
        cases g4
        have hget : ∀ i, i < len → (chunk n cs len).getD i [] = Bm.part cs (i * n) n := fun i hi => getD_of (chunk_get n len cs i hi)
        obtain ⟨X', hI⟩ := h.newBox hg hG (B' := .lit 0 n (chunk n cs len)) (x' := ⟨false, n, (chunk n cs len).length, fun i => (chunk n cs len).getD i []⟩) rfl rfl rfl c1 (by simp only [chunk_len]; omega) (fun i hi => by
          simp only [chunk_len] at hi ⊢
          rw [hget i hi]
          have := Nat.mul_le_mul_right n (show i + 1 ≤ len from hi)
          rw [Nat.add_mul, Nat.one_mul] at this
          simp [Bm.part, hcl]; omega) (fun i j v V hi hv hV => by
          simp only [chunk_len] at hi hv hV
          rw [hget i hi] at hv
          obtain ⟨hj, hv⟩ := part_get hv
          rw [← Array.getElem?_toList] at hV
          have := hrow.2 _ v V hv hV
          exact ⟨this, this.one (all_get hall hv)⟩) (.ms id [] 0 len) dst (V := .slice (some ⟨w.heap.size, 0, none⟩) len len) (fun Y hY => by
          refine .ms none id [] 0 len _ len _ hY (Nat.le_refl _) (by simp only [chunk_len]; omega) fun _ => ⟨by simp, by rw [Nat.zero_add]; simp only [chunk_len]; exact Nat.le_refl _⟩)
        exact ⟨X', hI⟩
    · cases he
  · cases he
end
end Go.Bm
