/- The abstract machine is sound, operation by operation: zero values and literals. -/
import Derived.Test.YtigopdlofamhlaaDoorBmMem
import Derived.Great.BuildSlice
namespace Go.Bm
set_option autoImplicit false
set_option linter.unusedVariables false
set_option linter.unusedSimpArgs false

section
variable {P : Program} {X0 X : Ctx} {st : St} {a : Act} {w : World}

/-! ### zero values -/
theorem bytes_empty {s s' : ByteArray} (h : s.size = 0) (h' : s'.size = 0) : s = s' := by
  obtain ⟨x⟩ := s
  obtain ⟨y⟩ := s'
  have hx : x.size = 0 := h
  have hy : y.size = 0 := h'
  rw [Array.eq_empty_of_size_eq_zero hx, Array.eq_empty_of_size_eq_zero hy]

theorem zfit1_sound {v : Value} {p : PV} (h : zfit1 v p = true) (X : Ctx) (κ : Option Key) : VA X κ (zav p) v ∧ VP X.R X.w p v ∧ (zav p).oneC = true ∧ v.oneCell' = true := by
  unfold zfit1 at h
  split at h
  · exact ⟨.pv _ _ _ (.bool _), .bool _, rfl, rfl⟩
  · simp only [Bool.and_eq_true, decide_eq_true_eq] at h
    obtain ⟨rfl, rfl⟩ := h
    exact ⟨.pv _ _ _ (.int _ _), .int _ _, rfl, rfl⟩
  · simp only [Bool.and_eq_true, beq_iff_eq] at h
    rw [bytes_empty h.1 h.2]
    exact ⟨.pv _ _ _ (.str _), .str _, rfl, rfl⟩
  · exact ⟨.nil _ _ _, VP.seq0 _ _ _, rfl, rfl⟩
  · exact ⟨.pv _ _ _ .nilPtr, .nilPtr, rfl, rfl⟩
  · exact ⟨.pv _ _ _ .nilFn, .nilFn, rfl, rfl⟩
  · exact ⟨.pv _ _ _ .nilIf, .nilIf, rfl, rfl⟩
  · cases h

theorem zfit_sound (X : Ctx) : ∀ {Vs : List Value} {ps : List PV}, zfit Vs ps = true → Vs.length = ps.length ∧ ∀ (j : Nat) (p : PV) (V : Value), ps[j]? = some p → Vs[j]? = some V → ∀ κ, VA X κ (zav p) V ∧ VP X.R X.w p V ∧ (zav p).oneC = true ∧ V.oneCell' = true
  | [], [], _ => ⟨rfl, fun j p V h => by cases h⟩
  | v :: vs, p :: ps, h => by
    simp only [zfit, Bool.and_eq_true] at h
    obtain ⟨h1, h2⟩ := zfit_sound X h.2
    refine ⟨by simp [h1], fun j q V hq hV κ => ?_⟩
    cases j with
    | zero => cases hq; cases hV; exact zfit1_sound h.1 X κ
    | succ j => exact h2 j q V hq hV κ
  | [], _ :: _, h => by cases h
  | _ :: _, [], h => by cases h

/-- A type's zero value. -/
theorem zeroOf_sound {t : TypeId} {z : List PV} (h : zeroOf P t = some z) : ∃ i Z, P.info? t = some i ∧ i.zero = some Z ∧ zfit Z.cells.toList z = true := by
  unfold zeroOf at h
  split at h
  · rename_i i hi
    split at h
    · rename_i Z hZ
      split at h
      · rename_i hf
        cases h
        exact ⟨i, Z, hi, hZ, hf⟩
      · cases h
    · cases h
  · cases h

/-! ### cells of values, and filling -/
theorem cells_one {V : Value} (h : V.oneCell' = true) : V.cells = #[V] := by cases V <;> first | rfl | cases h
/-- Cells and what they stand for, one by one. -/
theorem cells_rows {v : AV} {V : Value} (h : VA X none v V) (hv : 1 ≤ v.cells.length) : Rows X v.cells V.cells.toList := by
  have key : V.cells = #[V] → v.cells = [v] → VA X none v V → Rows X v.cells V.cells.toList := by
    intro e1 e2 e3
    rw [e1, e2]
    refine ⟨rfl, fun j u U hu hU => ?_⟩
    cases j with
    | zero => cases hu; cases hU; exact e3
    | succ j => cases hu
  have hn := h
  cases h with
  | agg _ cs Cs hl h => exact ⟨by simp [Value.cells, AV.cells, hl], fun j v V h1 h2 => h j v V h1 (by simpa [Value.cells] using h2)⟩
  | dead => simp [AV.cells] at hv
  | pv _ p V hp => exact key (cells_one hp.one) rfl hn
  | _ => exact key rfl rfl hn

theorem splice_len {α : Type} (cs : List α) (off : Nat) (vs : List α) (h : off + vs.length ≤ cs.length) : (splice cs off vs).length = cs.length := by simp [splice]; omega
theorem splice_get {α : Type} {cs : List α} {off : Nat} {vs : List α} (h : off + vs.length ≤ cs.length) (j : Nat) : (splice cs off vs)[j]? = if off ≤ j ∧ j < off + vs.length then vs[j - off]? else cs[j]? := by
  unfold splice
  have hl : (cs.take off).length = off := by simp; omega
  rw [List.append_assoc]
  by_cases h1 : j < off
  · rw [List.getElem?_append_left (by omega), List.getElem?_take, if_pos h1, if_neg (by omega)]
  · rw [List.getElem?_append_right (by omega), hl]
    by_cases h2 : j < off + vs.length
    · rw [List.getElem?_append_left (by omega), if_pos (by omega)]
    · rw [List.getElem?_append_right (by omega), List.getElem?_drop, if_neg (by omega)]
      congr 1; omega

theorem foldl_set : ∀ (vs : List Value) (k off : Nat) (cs : Array Value), off + k + vs.length ≤ cs.size → ((vs.zipIdx k).foldl (fun cs x => cs.setIfInBounds (off + x.2) x.1) cs).toList = splice cs.toList (off + k) vs
  | [], k, off, cs, _ => by simp [splice]
  | v :: vs, k, off, cs, h => by
    simp only [List.length_cons] at h
    rw [List.zipIdx_cons, List.foldl_cons, foldl_set vs (k + 1) off _ (by simp; omega)]
    apply List.ext_getElem?
    intro j
    rw [splice_get (by simp; omega), splice_get (by simp; omega), Array.toList_setIfInBounds, List.getElem?_set]
    simp only [List.length_cons, Array.length_toList]
    by_cases e : j = off + k
    · subst e
      rw [if_neg (by omega), if_pos rfl, if_pos (by omega), if_pos (by omega)]
      simp
    · rw [if_neg (Ne.symm e)]
      by_cases h1 : off + (k + 1) ≤ j ∧ j < off + (k + 1) + vs.length
      · rw [if_pos h1, if_pos (by omega), show j - (off + k) = (j - (off + (k + 1))) + 1 by omega, List.getElem?_cons_succ]
      · rw [if_neg h1, if_neg (by omega)]

theorem foldl_arr (V : Value) (off : Nat) (cs : Array Value) (h : off + V.cells.size ≤ cs.size) : (V.cells.zipIdx.foldl (fun cs (x : Value × Nat) => cs.setIfInBounds (off + x.2) x.1) cs).toList = splice cs.toList off V.cells.toList := by
  have := foldl_set V.cells.toList 0 off cs (by simpa using h)
  rw [← Array.foldl_toList, Array.toList_zipIdx]
  simpa using this

theorem Rows.splice {cs vs : List AV} {Cs Vs : List Value} (h : Rows X cs Cs) (k : Rows X vs Vs) {off : Nat} (hl : off + vs.length ≤ cs.length) : Rows X (Bm.splice cs off vs) (Bm.splice Cs off Vs) := by
  refine ⟨by rw [splice_len _ _ _ hl, splice_len _ _ _ (by rw [h.1, k.1]; exact hl), h.1], fun j v V hv hV => ?_⟩
  rw [splice_get hl] at hv
  rw [splice_get (by rw [h.1, k.1]; exact hl), k.1] at hV
  split at hv
  · rename_i hc
    rw [if_pos hc] at hV
    exact k.2 _ v V hv hV
  · rename_i hc
    rw [if_neg hc] at hV
    exact h.2 _ v V hv hV

theorem fill_sound {pl : Nat → Option (Nat × Nat)} : ∀ {parts : List (Nat × AV)} {Parts : List (Nat × Value)} {cells res : List AV} {Cells : Array Value},
    fillA pl cells parts = some res → parts.length = Parts.length → (∀ (j : Nat) (x : Nat × AV) (Y : Nat × Value), parts[j]? = some x → Parts[j]? = some Y → x.1 = Y.1 ∧ VA X none x.2 Y.2) →
    Rows X cells Cells.toList → ∃ Res : Array Value, Instr.fill pl Cells Parts = some Res ∧ Rows X res Res.toList
  | [], [], cells, res, Cells, h, _, _, hr => by cases h; exact ⟨Cells, rfl, hr⟩
  | (i, v) :: rest, (I, V) :: Rest, cells, res, Cells, h, hl, hp, hr => by
    have hp0 := hp 0 _ _ rfl rfl
    have e1 : i = I := hp0.1
    have hv : VA X none v V := hp0.2
    subst e1
    simp only [fillA] at h
    split at h
    · cases h
    · rename_i off size hpl
      obtain ⟨h1, h2⟩ := bif_some h
      simp only [Bool.and_eq_true] at h1
      obtain ⟨⟨c1, c2⟩, c3⟩ := h1
      have c1 : v.cells.length = size := Nat.eq_of_beq_eq_true c1
      have c2 := Nat.le_of_ble_eq_true c2
      have c3 := Nat.le_of_ble_eq_true c3
      have hv1 : 1 ≤ v.cells.length := by rw [c1]; exact c2
      have hrow := cells_rows (v := v) (V := V) hv hv1
      have hsz : V.cells.size = size := by have := hrow.1; rw [Array.length_toList] at this; exact this.trans c1
      have hcs : Cells.size = cells.length := by have := hr.1; rw [Array.length_toList] at this; exact this
      simp only [Instr.fill, hpl]
      rw [if_neg (by rw [hsz, hcs]; simp; omega)]
      refine fill_sound (parts := rest) (Parts := Rest) h2 (by simpa using hl) (fun j x Y hx hY => hp (j + 1) x Y hx hY) ?_
      rw [foldl_arr V off Cells (by omega)]
      exact hr.splice hrow (by rw [c1]; exact c3)
  | [], _ :: _, _, _, _, _, hl, _, _ => by simp at hl
  | _ :: _, [], _, _, _, _, hl, _, _ => by simp at hl

theorem zero_rows {Z : Value} {z : List PV} (h : zfit Z.cells.toList z = true) : Rows X (z.map zav) Z.cells.toList := by
  obtain ⟨h1, h2⟩ := zfit_sound X h
  refine ⟨by simp [h1], fun j v V hv hV => ?_⟩
  rw [List.getElem?_map] at hv
  cases hp : z[j]? with
  | none => rw [hp] at hv; cases hv
  | some p => rw [hp] at hv; cases hv; exact (h2 j p V hp hV none).1


/-- Operands that are parts. -/
theorem parts_sound {ρ : Operand → AV} (hρ : ∀ x, VA X none (ρ x) (a.eval x)) (ty : Nat → TypeId) (parts : Array (Nat × Operand)) :
    (parts.toList.map fun x => (x.1, retype P (ty x.1) (ρ x.2))).length = ((parts.map fun (i, x) => (i, a.eval x)).toList).length ∧
    ∀ (j : Nat) (x : Nat × AV) (Y : Nat × Value), (parts.toList.map fun x => (x.1, retype P (ty x.1) (ρ x.2)))[j]? = some x → ((parts.map fun (i, x) => (i, a.eval x)).toList)[j]? = some Y → x.1 = Y.1 ∧ VA X none x.2 Y.2 := by
  refine ⟨by simp, fun j x Y hx hY => ?_⟩
  rw [Array.toList_map, List.getElem?_map] at hY
  rw [List.getElem?_map] at hx
  cases hp : parts.toList[j]? with
  | none => rw [hp] at hx; cases hx
  | some p =>
    rw [hp] at hx hY
    cases hx
    cases hY
    exact ⟨rfl, (hρ p.2).retype P _⟩

theorem places_ok : ∀ (fs : List Field), (fs.all fun f => (sizeT P f.type).isSome) = true → ∃ pl, fs.mapM (fun f => (P.info? f.type).map fun i => (f.offset, i.size)) = some pl ∧ ∀ i : Nat, pl[i]? = (fs[i]?).bind fun f => (sizeT P f.type).map fun n => (f.offset, n)
  | [], _ => ⟨[], rfl, fun i => by simp⟩
  | f :: fs, h => by
    simp only [List.all_cons, Bool.and_eq_true] at h
    obtain ⟨pl, h1, h2⟩ := places_ok fs h.2
    obtain ⟨n, hn⟩ := Option.isSome_iff_exists.1 h.1
    have hi : ∃ i, P.info? f.type = some i ∧ i.size = n := by
      unfold sizeT at hn
      split at hn
      · cases hn; exact ⟨_, ‹_›, rfl⟩
      · cases hn
    obtain ⟨i, hi, rfl⟩ := hi
    refine ⟨(f.offset, i.size) :: pl, by simp [List.mapM_cons, hi, h1], fun j => ?_⟩
    cases j with
    | zero => simp [hn]
    | succ j => simpa using h2 j

theorem buildV_sound {ρ : Operand → AV} (hρ : ∀ x, VA X none (ρ x) (a.eval x)) {t : TypeId} {parts : Array (Nat × Operand)} {v : AV} (h : buildV P ρ t parts.toList = some v) :
    ∃ V, VA X none v V ∧ (Instr.build t (parts.map fun (i, x) => (i, a.eval x))).run P w = .ok V w := by
  unfold buildV at h
  split at h
  · cases h
  · rename_i z hz
    obtain ⟨it, Z, hi, hZ, hf⟩ := zeroOf_sound hz
    split at h
    · rename_i fs hu
      obtain ⟨hall, h⟩ := bif_some h
      obtain ⟨pl, hpl, hget⟩ := places_ok (P := P) fs.toList hall
      obtain ⟨res, hres, rfl⟩ := Option.map_eq_some_iff.1 h
      have epl : fieldPl P fs = (pl.toArray[·]?) := by
        funext i
        simp only [fieldPl, List.getElem?_toArray, hget i, Array.getElem?_toList]
        cases fs[i]? <;> rfl
      rw [epl] at hres
      obtain ⟨p1, p2⟩ := parts_sound (P := P) hρ (fieldTy fs) parts
      obtain ⟨Res, hR, hrow⟩ := fill_sound (X := X) hres p1 p2 (zero_rows hf)
      refine ⟨.agg Res, ?_, run_build w t _ Res ?_⟩
      · have := VA.agg (X := X) none res Res.toList hrow.1 hrow.2
        simpa using this
      · simp only [Program.built, hi, hu, hZ, hpl]
        exact hR
    · rename_i n e hu
      split at h
      · rename_i m hm
        obtain ⟨res, hres, rfl⟩ := Option.map_eq_some_iff.1 h
        obtain ⟨p1, p2⟩ := parts_sound (P := P) hρ (fun _ => e) parts
        obtain ⟨Res, hR, hrow⟩ := fill_sound (X := X) hres p1 p2 (zero_rows hf)
        have hie : ∃ i, P.info? e = some i ∧ i.size = m := by
          unfold sizeT at hm
          split at hm
          · cases hm; exact ⟨_, ‹_›, rfl⟩
          · cases hm
        obtain ⟨ie, hie, rfl⟩ := hie
        refine ⟨.agg Res, ?_, run_build w t _ Res ?_⟩
        · have := VA.agg (X := X) none res Res.toList hrow.1 hrow.2
          simpa using this
        · simp only [Program.built, hi, hu, hZ, hie]
          exact hR
      · cases h
    · cases h
end
end Go.Bm
