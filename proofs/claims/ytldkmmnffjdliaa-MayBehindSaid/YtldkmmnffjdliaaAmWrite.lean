/- The abstract machine is sound, operation by operation: what makes memory and what writes it. -/
import Derived.Test.YtldkmmnffjdliaaAmMake
namespace Go.Am
set_option autoImplicit false
set_option linter.unusedVariables false
set_option linter.unusedSimpArgs false

section
variable {P : Program} {X0 X : Ctx} {st : St} {a : Act} {w W : World}

theorem gone_sound {H : List Blk} {b : Nat} (h : gone? H b = true) : H[b]? = some .gone := by
  unfold gone? at h
  simp only [Bool.and_eq_true] at h
  have h1 := Nat.le_of_ble_eq_true h.1
  have h2 := h.2
  unfold getB List.getD at h2
  cases hb : H[b]? with
  | none => rw [List.getElem?_eq_none_iff] at hb; omega
  | some B =>
    rw [hb] at h2
    cases B <;> first | rfl | cases h2

theorem all_get {cs : List AV} (h : cs.all AV.oneC = true) {j : Nat} {v : AV} (hv : cs[j]? = some v) : v.oneC = true :=
  List.all_eq_true.1 h v (List.mem_of_getElem? hv)

/-- A block of the abstract machine's, made of cells that are known. -/
theorem Inv.makeBlk (h : Inv X0 X st a w) {e t : TypeId} {cs : List AV} {Cs : Array Value} (hG : Grew w W (.cells Cs t)) {id : Nat} (hgone : st.heap[id]? = some .gone) (hr : Rows X cs Cs.toList) (h1 : cs.all AV.oneC = true) (hok : newOk P e cs.length = true) (dst : Option Nat) :
    ∃ X', Inv X0 X' ((Eff.mk (newPtr P e id) none [(id, Am.newBlk P e cs)]).on dst st) (a.put dst (.pointer (some ⟨w.heap.size, 0, none⟩))) W := by
  have hw := h.hw
  have hcs : Cs.size = cs.length := by have := hr.1; rw [Array.length_toList] at this; exact this
  have hget : ∀ (j : Nat) (V : Value), Cs[j]? = some V → Cs.toList[j]? = some V := fun j V hV => by rw [Array.getElem?_toList]; exact hV
  have box : ∀ Y : Ctx, Y = X.newBlk W id 0 0 → Stab X Y → BlkRel Y id (.box (cs.map AV.norm)) := by
    intro Y hY hS
    have hφ : Y.φ id = w.heap.size := by subst hY; simp [Ctx.newBlk, hw]
    have hW : Y.w = W := by subst hY; rfl
    refine ⟨by subst hY; exact .inr rfl, Cs, t, by rw [hφ, hW]; exact hG.new, by simp [hcs], fun j v V hv hV => ?_⟩
    rw [List.getElem?_map] at hv
    cases hc : cs[j]? with
    | none => rw [hc] at hv; cases hv
    | some c =>
      rw [hc] at hv
      cases hv
      have hb := hr.2 j c V hc (hget j V hV)
      exact ⟨((hb.stab hS fun p hp => by cases hp).norm).any _, hb.one (all_get h1 hc)⟩
  unfold newPtr Am.newBlk newOk at *
  split at hok
  · rename_i n e' hu
    have hpos := Nat.le_of_ble_eq_true hok
    refine ⟨X.newBlk W id 1 cs.length, ?_⟩
    have hI := h.newBlk hG hgone 1 cs.length (.arr 1 cs.length fun i => [(cs.getD i dead).flat]) fun hS => by
      have hφ : (X.newBlk W id 1 cs.length).φ id = w.heap.size := by simp [Ctx.newBlk, hw]
      refine ⟨.inr rfl, by simp [Ctx.newBlk], by simp [Ctx.newBlk], Nat.one_pos, Cs, t, by rw [hφ]; exact hG.new, by omega, fun i hi => rfl, fun i j v V hi hv hV => ?_⟩
      cases j with
      | zero =>
        cases hv
        have hc : cs[i]? = some cs[i] := List.getElem?_eq_getElem hi
        rw [getD_of hc]
        have hb := hr.2 i _ V hc (hget i V (by simpa using hV))
        exact ⟨((hb.stab hS fun p hp => by cases hp).flat (all_get h1 hc)).any _, hb.one (all_get h1 hc), flatB_flat⟩
      | succ j => cases hv
    refine hI.put dst fun d hd => ?_
    have := VA.aptr (X := X.newBlk W id 1 cs.length) (some (.tmp d)) id 0 0 (.inr rfl) (by simp [Ctx.newBlk]; omega)
    simpa [Ctx.newBlk, hw] using this
  · rename_i hu
    refine ⟨X.newBlk W id 0 0, ?_⟩
    have hI := h.newBlk hG hgone 0 0 _ fun hS => box _ rfl hS
    refine hI.put dst fun d hd => ?_
    have := VA.ptr (X := X.newBlk W id 0 0) (some (.tmp d)) id 0 (.inr rfl)
    simpa [Ctx.newBlk, hw] using this

theorem zero_oneC {Z : Value} {z : List PV} (h : zfit Z.cells.toList z = true) : (z.map zav).all AV.oneC = true := by
  let X : Ctx := ⟨default, fun _ => 0, fun _ => 0, fun _ => 0, fun _ => False, fun _ _ => False, fun _ => none⟩
  obtain ⟨h1, h2⟩ := zfit_sound X h
  rw [List.all_eq_true]
  intro v hv
  obtain ⟨j, hj⟩ := List.getElem?_of_mem hv
  rw [List.getElem?_map] at hj
  cases hp : z[j]? with
  | none => rw [hp] at hj; cases hj
  | some p =>
    rw [hp] at hj
    cases hj
    have hlt : j < z.length := (List.getElem?_eq_some_iff.1 hp).1
    have : Z.cells.toList[j]? = some Z.cells.toList[j] := List.getElem?_eq_getElem (by omega)
    exact (h2 j p _ hp this none).2.2.1

theorem alloc_sound (h : Inv X0 X st a w) {e : TypeId} {z : List PV} (hz : zeroOf P e = some z) {id : Nat} (hgone : st.heap[id]? = some .gone) (hok : newOk P e z.length = true) (dst : Option Nat) :
    ∃ X' V W, (Instr.alloc e true (.tuple #[])).run P w = .ok V W ∧ Inv X0 X' ((Eff.mk (newPtr P e id) none [(id, Am.newBlk P e (z.map zav))]).on dst st) (a.put dst V) W := by
  obtain ⟨it, Z, hi, hZ, hf⟩ := zeroOf_sound hz
  obtain ⟨X', hI⟩ := h.makeBlk (P := P) (e := e) (t := e) (cs := z.map zav) (Cs := Z.cells) (Grew.alloc w _) hgone (zero_rows hf) (zero_oneC hf) (by simpa using hok) dst
  exact ⟨X', _, _, by simp [Instr.alloc, zeroValue, typeInfo, hi, hZ, newVar, newRow], hI⟩

theorem box_sound (h : Inv X0 X st a w) {e : TypeId} {x : AV} {Vx : Value} (hx : VA X none x Vx) (hb : x.borrow = x) {id : Nat} (hgone : st.heap[id]? = some .gone) (hok : newOk P e x.cells.length = true) (hl : 1 ≤ x.cells.length) (h1 : x.cells.all AV.oneC = true) (dst : Option Nat) :
    ∃ X' V W, (Instr.box e Vx).run P w = .ok V W ∧ Inv X0 X' ((Eff.mk (newPtr P e id) none [(id, Am.newBlk P e x.cells)]).on dst st) (a.put dst V) W := by
  obtain ⟨X', hI⟩ := h.makeBlk (P := P) (e := e) (t := e) (cs := x.cells) (Cs := Vx.cells) (Grew.alloc w _) hgone (cells_rows hx hl hb) h1 hok dst
  exact ⟨X', _, _, by simp [Instr.box, newVar, newRow], hI⟩

theorem mod_get {zs : Array Value} {sz i j n : Nat} (hz : zs.size = sz) (hj : j < sz) (hn : i * sz + j < n) : ((Array.range n).map (zs[· % zs.size]!))[i * sz + j]? = zs[j]? := by
  have hm : (i * sz + j) % sz = j := by rw [Nat.add_comm, Nat.add_mul_mod_self_right]; exact Nat.mod_eq_of_lt hj
  simp only [Array.getElem?_map, Array.getElem?_range, hn, if_true, Option.map_some, hz, hm]
  rw [getElem!_pos zs j (by omega)]
  simp [hz, hj]

theorem makeSlice_sound (h : Inv X0 X st a w) {t e : TypeId} {n m : Int} {k1 k2 : IntKind} {i : TypeInfo} {z : List PV} (hu : P.underlying t = some (.slice e)) (hi : P.info? e = some i) (hz : zeroOf P e = some z) (h1 : 1 ≤ i.size) (hzl : z.length = i.size) (hby : 1 ≤ i.bytes) (hn : 0 ≤ n) (hnm : n = m)
    (hr : n * i.bytes ≤ (reach : Int)) {id : Nat} (hgone : st.heap[id]? = some .gone) (dst : Option Nat) :
    ∃ X' V W, (Instr.makeSlice t (.int k1 n) (.int k2 m)).run P w = .ok V W ∧ Inv X0 X' ((Eff.mk (.ms id 0 n.toNat) none [(id, .arr i.size n.toNat fun _ => (z.map zav).map AV.flat)]).on dst st) (a.put dst V) W := by
  subst hnm
  obtain ⟨it, Z, hi', hZ, hf⟩ := zeroOf_sound hz
  rw [hi] at hi'
  cases hi'
  have hw := h.hw
  have hzc : Z.cells.size = i.size := by have := (zfit_sound X hf).1; rw [Array.length_toList] at this; omega
  have hn' : n ≤ n * i.bytes := by have := Int.mul_le_mul_of_nonneg_left (show (1 : Int) ≤ i.bytes by omega) hn; omega
  have hmax : n ≤ 140737488351232 := by unfold reach at hr; omega
  have hwr : IntKind.i64.wrap n = n := by
    have hb : IntKind.i64.bits = 64 := rfl
    have : n % 2 ^ 64 = n := Int.emod_eq_of_lt hn (by omega)
    simp only [IntKind.wrap, hb, this]
    rw [if_neg (by simp; omega)]
  have hcond : ¬ (n < 0 ∨ 281474976710656 < i.bytes * n) := by
    unfold reach at hr
    rw [Int.mul_comm] at hr
    omega
  have hsz : ¬ (n.toNat * i.size = 0) ∨ n.toNat = 0 := by
    rcases Nat.eq_zero_or_pos n.toNat with hh | hh
    · exact .inr hh
    · exact .inl (by have := Nat.mul_le_mul_left n.toNat h1; omega)
  let cur : Array Value := if n.toNat * i.size = 0 then (Array.range 0).map (#[][· % 0]!) else (Array.range (n.toNat * i.size)).map (Z.cells[· % Z.cells.size]!)
  have hcur : cur.size = n.toNat * i.size := by
    show (if n.toNat * i.size = 0 then (Array.range 0).map (#[][· % 0]!) else (Array.range (n.toNat * i.size)).map (Z.cells[· % Z.cells.size]!)).size = _
    split
    · rename_i h0; simp [h0]
    · simp
  have hrun : (Instr.makeSlice t (.int k1 n) (.int k2 n)).run P w = .ok (.slice (some ⟨w.heap.size, 0, none⟩) n.toNat n.toNat) (w.alloc (.cells cur e)) := by
    have hc2 : ¬ (n > n) := by omega
    simp only [Instr.makeSlice, Sem.run_bind, run_underlying hu, Result.andThen_ok, asInt, asIntOf, Sem.run_pure, typeInfo, run_program, hi, hwr]
    have hc0 : ¬ n < 0 := by omega
    have hc3 : ¬ ((i.bytes : Int) * n > 281474976710656) := by
      unfold reach at hr
      rw [Int.mul_comm] at hr
      omega
    by_cases h0 : n.toNat * i.size = 0
    · simp [hc0, hc3, sizeOf, typeInfo, hi, h0, newRow, cur]
    · simp [hc0, hc3, sizeOf, typeInfo, hi, h0, newRow, cur, zeroValue, hZ]
  refine ⟨X.newBlk (w.alloc (.cells cur e)) id i.size n.toNat, _, _, hrun, ?_⟩
  have hI := h.newBlk (Grew.alloc w (.cells cur e)) hgone i.size n.toNat (.arr i.size n.toNat fun _ => (z.map zav).map AV.flat) fun hS => by
    have hφ : (X.newBlk (w.alloc (.cells cur e)) id i.size n.toNat).φ id = w.heap.size := by simp [Ctx.newBlk, hw]
    refine ⟨.inr rfl, by simp [Ctx.newBlk], by simp [Ctx.newBlk], h1, cur, e, by rw [hφ]; exact (Grew.alloc w _).new, hcur, fun _ _ => by simp [hzl], fun k j v V hk hv hV => ?_⟩
    rw [List.getElem?_map, List.getElem?_map] at hv
    cases hp : z[j]? with
    | none => rw [hp] at hv; cases hv
    | some p =>
      rw [hp] at hv
      cases hv
      have hj : j < i.size := by have := (List.getElem?_eq_some_iff.1 hp).1; omega
      have hlt := lt_mul_of hk hj
      have hne : ¬ (n.toNat * i.size = 0) := by omega
      have hcv : cur[k * i.size + j]? = Z.cells[j]? := by
        show (if n.toNat * i.size = 0 then (Array.range 0).map (#[][· % 0]!) else (Array.range (n.toNat * i.size)).map (Z.cells[· % Z.cells.size]!))[k * i.size + j]? = _
        rw [if_neg hne]
        exact mod_get hzc hj hlt
      rw [hcv, ← Array.getElem?_toList] at hV
      obtain ⟨q1, q2, q3, q4⟩ := (zfit_sound (X.newBlk (w.alloc (.cells cur e)) id i.size n.toNat) hf).2 j p V hp hV (some (.acell id k j))
      exact ⟨q1.flat q3, q4, flatB_flat⟩
  refine hI.put dst fun d hd => ?_
  have := VA.ms (X := X.newBlk (w.alloc (.cells cur e)) id i.size n.toNat) (some (.tmp d)) id 0 n.toNat n.toNat (.inr rfl) (Nat.le_refl _) (by simp [Ctx.newBlk])
  simpa [Ctx.newBlk, hw] using this
end
end Go.Am
